/-
  The document's reader: a command of words: the walk. (Printed by gensimpr.py.)
-/
import Derived.Test.YtfgbbmnmblchiaaDoorPm09
namespace Go.Proofs.YtfgbbmnmblchiaaDoor
open Go.RowKit
set_option linter.unusedVariables false

theorem simpleL_count {ts : List Lx.Tok} : ∀ (f p : Nat) (c cm : Ps.Cmd) (q : Nat), Ps.simpleL ts f p c = .ok cm q → (q = p ∧ cm.sets.length + cm.words.length + cm.reds.length = c.sets.length + c.words.length + c.reds.length) ∨ (p < q ∧ c.sets.length + c.words.length + c.reds.length < cm.sets.length + cm.words.length + cm.reds.length)
  | 0, p, c, cm, q, h => by
    unfold Ps.simpleL at h
    cases h
    exact .inl ⟨rfl, rfl⟩
  | f + 1, p, c, cm, q, h => by
    cases ht : ts[p]? with
    | none => rw [simpleL_none ht] at h; cases h; exact .inl ⟨rfl, rfl⟩
    | some t =>
      by_cases h2 : t.kind = 2 ∧ 0 < Ps.redK t.text
      · cases hu : ts[p + 1]? with
        | none =>
          rw [simpleL_red0 ht h2 (isT_none (by intro hlt; rw [List.getElem?_eq_getElem hlt] at hu; cases hu) _ _)] at h
          cases h
        | some u =>
          by_cases hk : u.kind = 1
          · rw [simpleL_red ht h2 hu hk] at h
            rcases simpleL_count f _ _ _ _ h with ⟨h3, h4⟩ | ⟨h3, h4⟩
            · exact .inr ⟨by omega, by simp at h4; omega⟩
            · exact .inr ⟨by omega, by simp at h4; omega⟩
          · rw [simpleL_red0 ht h2 (by rw [isT_some hu]; simpa using hk)] at h
            cases h
      · by_cases hk : t.kind = 1
        · rw [simpleL_word ht hk] at h
          have hp : (c.put t).sets.length + (c.put t).words.length + (c.put t).reds.length = c.sets.length + c.words.length + c.reds.length + 1 := by
            unfold Ps.Cmd.put
            split
            · split
              · simp; omega
              · simp; omega
            · simp; omega
          rcases simpleL_count f _ _ _ _ h with ⟨h3, h4⟩ | ⟨h3, h4⟩
          · exact .inr ⟨by omega, by omega⟩
          · exact .inr ⟨by omega, by omega⟩
        · rw [simpleL_stop ht h2 hk] at h
          cases h
          exact .inl ⟨rfl, rfl⟩

set_option maxHeartbeats 8000000 in
set_option maxRecDepth 10000 in
theorem ssimple (pb : Nat) (a : Option Addr) (c : Nat) (ts : List Lx.Tok) (vs : List Value) (ln p deep : Nat) (w : World) (h : ROk w pb a c ts vs ln p deep) :
    Calls Tryd.prog 72 #[.pointer (some ⟨pb, 0, none⟩)] w fun e w' => SPost w pb a c ts vs ln (toS ts ln deep (Ps.simpleP ts p)) e w' := by
  have HC0 := Lib.hid (CmdR.start h)
  have hfew := h.1.few
  have hle := h.le
  have GOOD := Lib.hid h.1.good
  clear h
  obtain ⟨R, hR⟩ : ∃ R, Ps.simpleL ts (ts.length + 1) p ⟨[], [], []⟩ = R := ⟨_, rfl⟩
  have HR := Lib.hid hR
  clear hR
  go_enter Tryd.func72, Tryd.ntmps72
  go_upto_block 0 with fail
  have HC0 := Lib.hid HC0.out
  simp only [nodeC] at HC0
  generalize (w.alloc (.cells #[.int .i64 0, .slice none 0 0, .string ⟨#[]⟩, .slice none 0 0, .slice none 0 0, .slice none 0 0] 42)).alloc (.cells #[.int .i64 5, .slice none 0 0, .string ⟨#[]⟩, .slice none 0 0, .slice none 0 0, .slice none 0 0] 42) = w2 at *
  go_cut [] (fun wx => ∃ (q : Nat) (cm : Ps.Cmd) (wv sv rv : Value) (wl sl rl : List Value), CmdR w pb a c ts vs ln (w.heap.size + 1) q deep cm wv sv rv wl sl rl wx ∧ Hid (R = .ok cm q))
  case first =>
    go_wp2_with fail
    go_loopg [4, 5, 6, 7] (ts.length + 1) (fun g c4 c5 c6 c7 wr => ∃ (q : Nat) (cm : Ps.Cmd) (wv sv rv : Value) (wl sl rl : List Value), ts.length < q + g ∧ cm.words.length ≤ q ∧ cm.sets.length ≤ q ∧ cm.reds.length ≤ q ∧ CmdR w pb a c ts vs ln (w.heap.size + 1) q deep cm wv sv rv wl sl rl wr ∧ Hid (R = Ps.simpleL ts g q cm))
    case atStart => exact ⟨p, _, _, _, _, _, _, _, by omega, Nat.zero_le _, Nat.zero_le _, Nat.zero_le _, HC0.out, Lib.hid HR.out.symm⟩
    case round =>
      obtain ⟨q, cm, wv, sv, rv, wl, sl, rl, hg, hq1, hq2, hq3, hCB, hr⟩ := hrel
      have hleq := hCB.base.ps.le
      have HB := Lib.hid hCB
      clear hCB HC0
      cases gk with
      | zero => omega
      | succ g =>
        have k0 := HB.out.base.ps.1.c0
        have k1 := HB.out.base.ps.1.c1
        have k3 := HB.out.base.ps.1.c3
        have q0 : (0 : Int) ≤ (q : Int) := by omega
        have q9 : (q : Int) ≤ 100000 := by omega
        have l9 : (ts.length : Int) ≤ 100000 := by omega
        by_cases hp : q < ts.length
        · have hd : decide (q < ts.length) = true := decide_eq_true hp
          have q2 : (q : Int) < (ts.length : Int) := by omega
          have HG := Lib.hid hg
          have HQ1 := Lib.hid hq1
          have HQ2 := Lib.hid hq2
          have HQ3 := Lib.hid hq3
          clear hg hq1 hq2 hq3
          obtain ⟨t, ht⟩ : ∃ t, ts[q]? = some t := ⟨_, List.getElem?_eq_getElem hp⟩
          have HT := Lib.hid ht
          have GT := Lib.hid (GOOD.out t (List.mem_of_getElem? ht))
          clear ht
          go_upto_region 2 with (fail)
          go_quiet (fail)
          all_goals
            go_upto_region 3 with (fail)
            have HB3 := Lib.hid (HB.out.kept0 ((Chg.refl [] wr).drewN nq))
            generalize wr.drewN nq = w3 at *
            clear HB k0 k1 k3
            have k0 := HB3.out.base.ps.1.c0
            have k1 := HB3.out.base.ps.1.c1
            obtain ⟨g3, a3, n3, c3, rfl, y0, y1, y2, y3, hP, hWI, hTB⟩ := HB3.out.base.ps.1.toks.cell7 q t HT.out
            have HPA0 := Lib.hid hTB
            have HPA := Lib.hid hP
            have HWI := Lib.hid hWI
            have q3 : 0 < ts.length := by omega
            clear hP hWI hTB
            have ALC := fun (o : Obj) => (Chg.refl [] w3).alloc o
            have k0a := fun (o : Obj) => (ALC o).cell k0 (by simp)
            have k1a := fun (o : Obj) => (ALC o).cell k1 (by simp)
            have y0a := fun (o : Obj) => (ALC o).cell y0 (by simp)
            have y1a := fun (o : Obj) => (ALC o).cell y1 (by simp)
            have y2a := fun (o : Obj) => (ALC o).cell y2 (by simp)
            have y3a := fun (o : Obj) => (ALC o).cell y3 (by simp)
            clear ALC
            go_cut [4] from 9 to 133 (fun v4 wx => ∃ b, v4 = .pointer (some ⟨b, 0, none⟩) ∧ Chg [] w3 wx ∧ wx.heap[b]? = some (.cells #[.int .i64 t.kind, .string (Lx.strB t.text), .slice a3 n3 c3, .int .i64 t.pos] 98 (0, 0)))
            case first =>
              go_region
              all_goals
                go_wp2
                go_meet
                first
                  | exact ⟨_, rfl, (Chg.refl _ _).drew.alloc _, obj_alloc_new _ _⟩
                  | exact ⟨_, rfl, ((Chg.refl _ _).alloc _).drew, obj_alloc_new _ _⟩
            case rest =>
              obtain ⟨b, rfl, hC4, hT4⟩ := hcut
              have HB4 := Lib.hid (HB3.out.kept0 hC4)
              have HPA4 := Lib.hid (PartsR.kept0 HPA.out hC4)
              have HWI4 := Lib.hid (Sl.kept HWI.out hC4 (by simp))
              clear k0 k1 y0 y1 y2 y3 k0a k1a y0a y1a y2a y3a HB3 HPA HWI
              have RED := Lib.hid (rred_ok pb _ c ts vs ln q deep wc HB4.out.base.ps)
              obtain ⟨rk, hrk⟩ : ∃ rk, redAt ts q = rk := ⟨_, rfl⟩
              rw [hrk] at RED
              have HRK := Lib.hid (show (if t.kind = 2 then Ps.redK t.text else 0) = rk from by rw [← hrk]; unfold redAt; rw [HT.out])
              clear hrk
              go_wp2_with fail
              refine RED.out.mono ?_
              rintro e m3 ⟨rfl, hC6⟩
              have HB6 := Lib.hid (HB4.out.kept0 hC6)
              have HT6 := Lib.hid (hC6.obj hT4 (by simp))
              have HPA6 := Lib.hid (PartsR.kept0 HPA4.out hC6)
              have HWI6 := Lib.hid (Sl.kept HWI4.out hC6 (by simp))
              clear hT4 HB4 HPA4 HWI4 hC4 hC6 RED
              by_cases hA : 0 < rk
              · have e2 : decide (0 < rk) = true := decide_eq_true hA
                have HA := Lib.hid (show t.kind = 2 ∧ Ps.redK t.text = rk from by
                  have h1 := HRK.out
                  by_cases hk : t.kind = 2
                  · rw [if_pos hk] at h1; exact ⟨hk, h1⟩
                  · rw [if_neg hk] at h1; omega)
                have HA2 := Lib.hid hA
                clear hA
                have k1 := HB6.out.base.ps.1.c1
                have kf := HB6.out.base.ps.1.free 1
                go_upto_region 7 with (fail)
                have HB7 := Lib.hid (HB6.out.setAt ((q : Int) + 1) (by omega) (by omega))
                generalize m3.setCell ⟨pb, 1, none⟩ (.int .i64 ((q : Int) + 1)) = w7 at *
                clear HB6 k1 kf HT6 HPA6 HWI6 e2
                have k0 := HB7.out.base.ps.1.c0
                have k1 := HB7.out.base.ps.1.c1
                obtain ⟨q', hq'⟩ : ∃ q', q + 1 = q' := ⟨_, rfl⟩
                rw [hq'] at HB7 k1
                have HQ' := Lib.hid hq'
                have hqn : (q : Int) + 1 = (q' : Int) := by omega
                have p0 : (0 : Int) ≤ (q' : Int) := by omega
                have p9 : (q' : Int) ≤ 100000 := by omega
                rcases (show (Ps.isT ts q' 1 [] = false ∧ ¬ q' < ts.length) ∨ (Ps.isT ts q' 1 [] = false ∧ ∃ u, ts[q']? = some u ∧ ¬ u.kind = 1) ∨ (∃ u, ts[q']? = some u ∧ u.kind = 1) from by
                  by_cases hlt : q' < ts.length
                  · have hu : ts[q']? = some ts[q'] := List.getElem?_eq_getElem hlt
                    by_cases hk : ts[q'].kind = 1
                    · exact .inr (.inr ⟨_, hu, hk⟩)
                    · exact .inr (.inl ⟨by rw [isT_some hu]; simpa using hk, _, hu, hk⟩)
                  · exact .inl ⟨isT_none hlt _ _, hlt⟩) with ⟨hb, hlt⟩ | ⟨hb, u, hu, hk⟩ | ⟨u, hu, hk⟩
                · have hd2 : decide (ts.length ≤ q') = true := decide_eq_true (by omega)
                  have HF := Lib.hid (show R = .bad 10 q' from by rw [hr.out, ← HQ'.out]; exact simpleL_red0 HT.out ⟨HA.out.1, by rw [HA.out.2]; exact HA2.out⟩ (by rw [HQ'.out]; exact hb))
                  clear hb hlt hp hd q0 q2 hq' hqn
                  go_quiet (fail)
                  all_goals
                    have HB8 := Lib.hid (HB7.out.kept0 ((Chg.refl [] w7).drewN nq))
                    generalize w7.drewN nq = w8 at *
                    clear HB7 k0 k1
                    have hF := Lib.hid (sfail pb _ c ts vs ln (.ok q' deep) w8 10 (by decide) HB8.out.base.ps)
                    go_wp2_with fail
                    refine hF.out.mono ?_
                    rintro e w9 ⟨rfl, hP4, hC4⟩
                    have HP4 := Lib.hid hP4
                    have HC4 := Lib.hid hC4
                    have hnd := hC4.obj HB8.out.nd (by have := HB8.out.base.old.1; simp; omega)
                    have hrs := hC4.obj HB8.out.base.rs (by have := HB8.out.base.old.1; simp; omega)
                    obtain ⟨wa, wn, wk, rfl, _⟩ := HB8.out.rw.shape3
                    obtain ⟨sa, sn, sk, rfl, _⟩ := HB8.out.rs.shape3
                    obtain ⟨ra, rn, rc, rfl, _⟩ := HB8.out.rr.shape3
                    obtain ⟨m0, m1, m2, m3, m4, m5, mf⟩ := six_cells hnd
                    obtain ⟨r0, r1, r2, r3, r4, r5, rf⟩ := node_cells hrs
                    clear hP4 hC4 hnd hrs
                    go_wp2_with fail
                    refine bodyPost_ret (v := .agg #[.int .i64 5, .slice none 0 0, .string ⟨#[]⟩, .slice wa wn wk, .slice sa sn sk, .slice ra rn rc]) (by simp [results, Tryd.results72, go_sem, r0, r1, r2, r3, r4, r5]) rfl ?_
                    rw [simpleP_bad (HR.out.trans HF.out)]
                    refine HB8.out.base.fin6 (F := [w.heap.size]) (st := .bad 10 (posR ts ln q')) HC4.out HP4.out ?_ (by simp) (cs := [.int .i64 5, .slice none 0 0, .string ⟨#[]⟩, .slice wa wn wk, .slice sa sn sk, .slice ra rn rc]) ⟨5, [], none, wa, sa, ra, 0, 0, _, _, _, _, _, _, rfl⟩
                    exact (Chg.refl [w.heap.size] w9).six w.heap.size (.int .i64 5) (.slice none 0 0) (.string ⟨#[]⟩) (.slice wa wn wk) (.slice sa sn sk) (.slice ra rn rc) (.inl (by simp))
                · have hlt : q' < ts.length := (List.getElem?_eq_some_iff.1 hu).1
                  have hd2 : decide (ts.length ≤ q') = false := decide_eq_false (by omega)
                  have HF := Lib.hid (show R = .bad 10 q' from by rw [hr.out, ← HQ'.out]; exact simpleL_red0 HT.out ⟨HA.out.1, by rw [HA.out.2]; exact HA2.out⟩ (by rw [HQ'.out]; exact hb))
                  obtain ⟨g4, a4, n4, c4, hg4, y0, y1, y2, y3, hP4, hW4⟩ := HB7.out.base.ps.1.toks.cell4 q' u hu
                  cases hg4
                  have e4 : (u.kind != 1) = true := by simpa using hk
                  have p2 : (q' : Int) < (ts.length : Int) := by omega
                  clear hb hp hd q0 q2 hq' hqn hu hk hP4 hW4 y1 y2 y3
                  go_quiet (fail)
                  all_goals
                    have HB8 := Lib.hid (HB7.out.kept0 ((Chg.refl [] w7).drewN nq))
                    generalize w7.drewN nq = w8 at *
                    clear HB7 k0 k1 y0
                    have hF := Lib.hid (sfail pb _ c ts vs ln (.ok q' deep) w8 10 (by decide) HB8.out.base.ps)
                    go_wp2_with fail
                    refine hF.out.mono ?_
                    rintro e w9 ⟨rfl, hP4, hC4⟩
                    have HP4 := Lib.hid hP4
                    have HC4 := Lib.hid hC4
                    have hnd := hC4.obj HB8.out.nd (by have := HB8.out.base.old.1; simp; omega)
                    have hrs := hC4.obj HB8.out.base.rs (by have := HB8.out.base.old.1; simp; omega)
                    obtain ⟨wa, wn, wk, rfl, _⟩ := HB8.out.rw.shape3
                    obtain ⟨sa, sn, sk, rfl, _⟩ := HB8.out.rs.shape3
                    obtain ⟨ra, rn, rc, rfl, _⟩ := HB8.out.rr.shape3
                    obtain ⟨m0, m1, m2, m3, m4, m5, mf⟩ := six_cells hnd
                    obtain ⟨r0, r1, r2, r3, r4, r5, rf⟩ := node_cells hrs
                    clear hP4 hC4 hnd hrs
                    go_wp2_with fail
                    refine bodyPost_ret (v := .agg #[.int .i64 5, .slice none 0 0, .string ⟨#[]⟩, .slice wa wn wk, .slice sa sn sk, .slice ra rn rc]) (by simp [results, Tryd.results72, go_sem, r0, r1, r2, r3, r4, r5]) rfl ?_
                    rw [simpleP_bad (HR.out.trans HF.out)]
                    refine HB8.out.base.fin6 (F := [w.heap.size]) (st := .bad 10 (posR ts ln q')) HC4.out HP4.out ?_ (by simp) (cs := [.int .i64 5, .slice none 0 0, .string ⟨#[]⟩, .slice wa wn wk, .slice sa sn sk, .slice ra rn rc]) ⟨5, [], none, wa, sa, ra, 0, 0, _, _, _, _, _, _, rfl⟩
                    exact (Chg.refl [w.heap.size] w9).six w.heap.size (.int .i64 5) (.slice none 0 0) (.string ⟨#[]⟩) (.slice wa wn wk) (.slice sa sn sk) (.slice ra rn rc) (.inl (by simp))
                · have hlt : q' < ts.length := (List.getElem?_eq_some_iff.1 hu).1
                  have hd2 : decide (ts.length ≤ q') = false := decide_eq_false (by omega)
                  have HF := Lib.hid (show R = Ps.simpleL ts g (q' + 1) { cm with reds := cm.reds ++ [⟨rk, u.parts⟩] } from by rw [hr.out, ← HQ'.out, ← HA.out.2]; exact simpleL_red HT.out ⟨HA.out.1, by rw [HA.out.2]; exact HA2.out⟩ (by rw [HQ'.out]; exact hu) hk)
                  obtain ⟨g4, a4, n4, c4, hg4, y0, y1, y2, y3, hP4, hW4⟩ := HB7.out.base.ps.1.toks.cell4 q' u hu
                  cases hg4
                  have HU := Lib.hid hu
                  have e4 : (u.kind != 1) = false := by rw [hk]; rfl
                  have p2 : (q' : Int) < (ts.length : Int) := by omega
                  clear hp hd q0 q2 hq' hqn hu hk hP4 hW4 y1 y2 y3
                  go_quiet (fail)
                  all_goals
                    have HB8 := Lib.hid (HB7.out.kept0 ((Chg.refl [] w7).drewN nq))
                    generalize w7.drewN nq = w8 at *
                    clear HB7 k0 k1 y0
                    go_upto_region 10 with (fail)
                    obtain ⟨g4, a4, n4, c4, hg4, y0, y1, y2, y3, hP4, hWI⟩ := HB8.out.base.ps.1.toks.cell4 q' u HU.out
                    cases hg4
                    have HWI := Lib.hid hWI
                    have k0 := HB8.out.base.ps.1.c0
                    have k1 := HB8.out.base.ps.1.c1
                    obtain ⟨m0, m1, m2, m3, m4, m5, mf⟩ := six_cells HB8.out.nd
                    obtain ⟨av, nv, cv, rfl, hnv⟩ := HB8.out.rr.shape3
                    obtain rfl : nv = cm.reds.length := hnv.out
                    have hf2 := HQ3.out
                    have hf3 := HQ'.out
                    have HND := Lib.hid (show w.heap.size + 1 ∉ rowBlock (.slice av cm.reds.length cv) from fun hj => (HB8.out.new _ (.inr (.inr hj))).2 rfl)
                    have k0a := fun (o : Obj) => ((Chg.refl [] w8).alloc o).cell k0 (by simp)
                    have k1a := fun (o : Obj) => ((Chg.refl [] w8).alloc o).cell k1 (by simp)
                    have m5a := fun (o : Obj) => ((Chg.refl [] w8).alloc o).cell m5 (by simp)
                    obtain ⟨i0, hi, hz0, hz1, hz2⟩ := info_parts Tryd.infoRedR
                    clear hWI hP4 y0 y1 y3 m0 m1 m2 m3 m4 hnv
                    go_cut [] from 9 to 133 (fun wx => ∃ v', CmdR w pb (some ⟨g3, 0, none⟩) c ts vs ln (w.heap.size + 1) q' deep { cm with reds := cm.reds ++ [⟨rk, u.parts⟩] } wv sv v' wl sl (rl ++ [.int .i64 rk, .slice a4 n4 c4]) wx)
                    case first =>
                      go_region_law ((refine step_append_row (by rfl) _ _ 40 (by rfl) 84 i0 _ 2 32 Tryd.underlying40 hi hz0 hz1 hz2 (by rfl) (by decide) _ cm.reds.length rl (by rfl) (HB8.out.rr.kept0 ((Chg.refl [] _).drew.alloc _)) _ 1 1 [.int .i64 rk, .slice a4 n4 c4] (by rfl) (by rfl) (srcNew _ _ _ _) (by simp [Value.oneCell']) (by unfold maxLen; omega) (by omega) ?_; intro v' w10 r10 q10 g10; obtain ⟨av', cv', rfl, _⟩ := r10.shape; have hx10 := (((Chg.refl (rowBlock (.slice av cm.reds.length cv)) w8).drew.alloc _).trans q10 (fun x hx => .inl hx)).obj HB8.out.nd HND.out; have yf := free_of_obj hx10 5; have ym := cell_of_obj hx10 (j := 5) rfl; have FIN := Lib.hid (And.intro r10 (And.intro q10 g10)); clear r10 q10 g10 hx10))
                      all_goals
                        go_wp2
                        go_meet
                        first
                          | exact ⟨_, HB8.out.addR HWI.out ((Chg.refl [] _).drew.alloc _) FIN.out.1 FIN.out.2.1 (fun x hx => (FIN.out.2.2 x hx).imp id (fun h => by simp at h; omega)) (by omega)⟩
                          | exact ⟨_, (HB8.out.addR HWI.out ((Chg.refl [] _).drew.alloc _) FIN.out.1 FIN.out.2.1 (fun x hx => (FIN.out.2.2 x hx).imp id (fun h => by simp at h; omega)) (by omega)).kept0 (Chg.refl [] _).drew⟩
                    case rest =>
                      obtain ⟨v', hW9⟩ := hcut
                      have HW9 := Lib.hid hW9
                      clear hW9 k0 k1 k0a k1a m5 m5a mf HB8 y2
                      have k1 := HW9.out.base.ps.1.c1
                      have kf := HW9.out.base.ps.1.free 1
                      go_wp2
                      go_roundg g
                      case measure => omega
                      case rel => exact ⟨q' + 1, _, _, _, _, _, _, _, by have := HG.out; have := HQ'.out; omega, by have := HQ1.out; have := HQ'.out; simp; omega, by have := HQ2.out; have := HQ'.out; simp; omega, by have := HQ3.out; have := HQ'.out; simp; omega, HW9.out.setAt _ (by go_num) (by omega), Lib.hid HF.out⟩
              · have e3 : decide (0 < rk) = false := decide_eq_false hA
                have hA2 : ¬ (t.kind = 2 ∧ 0 < Ps.redK t.text) := fun h => by
                  have h1 := HRK.out
                  rw [if_pos h.1] at h1
                  omega
                by_cases hK : t.kind = 1
                · have e2 : (t.kind != 1) = false := by rw [hK]; rfl
                  have HK := Lib.hid hK
                  have HF := Lib.hid (show R = Ps.simpleL ts g (q + 1) (cm.put t) from by rw [hr.out]; exact simpleL_word HT.out hK)
                  have t0 := cell_of_obj HT6.out (j := 0) rfl
                  have k1 := HB6.out.base.ps.1.c1
                  have kf := HB6.out.base.ps.1.free 1
                  clear hA hA2 hK
                  go_upto_region 14 with (fail)
                  have hC7 := Chg.setP m3 pb 1 (.int .i64 ((q : Int) + 1))
                  have HB7 := Lib.hid (HB6.out.setAt ((q : Int) + 1) (by omega) (by omega))
                  have HT7 := Lib.hid (hC7.obj HT6.out (by have h1 := HB6.out.base.ps.1.p; have h2 := HT6.out; simp only [List.mem_singleton]; intro e; subst e; rw [h1] at h2; simp at h2))
                  have HPA7 := Lib.hid (HPA6.out.kept hC7 (fun j hj => by have := HB6.out.base.ps.out; simp only [List.mem_singleton]; rintro rfl; exact this (HPA0.out _ hj)))
                  have HWI7 := Lib.hid (Sl.kept HWI6.out hC7 (fun j hj hT => by simp only [List.mem_singleton] at hj; subst hj; exact HB6.out.base.ps.out hT))
                  generalize m3.setCell ⟨pb, 1, none⟩ (.int .i64 ((q : Int) + 1)) = w7 at *
                  clear HB6 HT6 HPA6 HWI6 hC7 k1 kf t0
                  have t0 := cell_of_obj HT7.out (j := 0) rfl
                  have t1 := cell_of_obj HT7.out (j := 1) rfl
                  have t2 := cell_of_obj HT7.out (j := 2) rfl
                  have t3 := cell_of_obj HT7.out (j := 3) rfl
                  have SET := Lib.hid (rset t a3 n3 c3 w7 HPA7.out HK.out GT.out)
                  go_wp2_with fail
                  refine SET.out.mono ?_
                  rintro e w8 ⟨hC8, hS⟩
                  have HB8 := Lib.hid (HB7.out.kept0 hC8)
                  have HT8 := Lib.hid (hC8.obj HT7.out (by simp))
                  have HWI8 := Lib.hid (Sl.kept HWI7.out hC8 (by simp))
                  clear SET t0 t1 t2 t3 e2 e3
                  cases hs : Ps.setP t with
                  | none =>
                    rw [hs] at hS
                    obtain rfl : e = .returned (.tuple #[.agg #[.string ⟨#[]⟩, .slice none 0 0], .bool false]) := hS
                    have HPUT := Lib.hid (put_word (cm := cm) hs)
                    clear hs hC8 HB7 HT7 HPA7 HWI7
                    obtain ⟨av, nv, cv, rfl, hnv⟩ := HB8.out.rw.shape3
                    obtain rfl : nv = cm.words.length := hnv.out
                    have hf2 := HQ1.out
                    have HND := Lib.hid (show w.heap.size + 1 ∉ rowBlock (.slice av cm.words.length cv) from fun hj => (HB8.out.new _ (.inl hj)).2 rfl)
                    obtain ⟨m0, m1, m2, m3', m4, m5, mf⟩ := six_cells HB8.out.nd
                    obtain ⟨_, _, _, m3a, _, _, mfa⟩ := six_cells_alloc HB8.out.nd
                    obtain ⟨_, _, _, m3b, _, _, mfb⟩ := six_cells_alloc (obj_alloc_old HB8.out.nd (.cells #[.string ⟨#[]⟩, .slice none 0 0] 80))
                    obtain ⟨i0, hi, hz0, hz1, hz2⟩ := info_parts Tryd.infoWordR
                    have u2 := cell_of_obj HT8.out (j := 2) rfl
                    have u2a := fun (o : Obj) => ((Chg.refl [] w8).alloc o).cell u2 (by simp)
                    clear m0 m1 m2 m4 m5 hnv
                    go_wp2_with (at_builtin; refine wpList_append_row _ rfl _ _ 38 rfl 78 i0 _ 1 24 Tryd.underlying38 hi hz0 hz1 hz2 rfl (by decide) _ cm.words.length wl rfl (HB8.out.rw.kept0 (((Chg.refl [] _).alloc _).alloc _)) _ 1 1 [.slice a3 n3 c3] rfl rfl (srcNew2 _ _ _ _ _) (by simp [Value.oneCell']) (by unfold maxLen; omega) (by omega) ?_)
                    intro v' w9 r9 q9 g9
                    obtain ⟨av', cv', rfl, _⟩ := r9.shape
                    have h89 := ((((Chg.refl [] w8).alloc _).alloc _).mono (G := rowBlock (.slice av cm.words.length cv)) (by simp)).trans q9 (fun x hx => .inl hx)
                    have hnd9 := h89.obj HB8.out.nd HND.out
                    have e3 := cell_of_obj hnd9 (j := 3) rfl
                    have ef := free_of_obj hnd9 3
                    have HB9 := Lib.hid (HB8.out.addW HWI8.out (((Chg.refl [] _).alloc _).alloc _) r9 q9 (fun x hx => (g9 x hx).imp id (fun h => by omega)) (by omega))
                    clear m3' m3a mf mfa m3b mfb u2 u2a r9 q9 g9 h89 hnd9
                    go_wp2
                    go_roundg g
                    case measure => omega
                    case rel => exact ⟨q + 1, _, _, _, _, _, _, _, by have := HG.out; omega, by have := HQ1.out; simp; omega, by have := HQ2.out; simp; omega, by have := HQ3.out; simp; omega, HB9.out, Lib.hid (by rw [HF.out, HPUT.out])⟩
                  | some s =>
                    rw [hs] at hS
                    obtain ⟨a8, n8, c8, rfl, hW8⟩ := hS
                    by_cases hw0 : cm.words = []
                    · have HPUT := Lib.hid (put_set hs hw0)
                      have HS8 := Lib.hid (show WordIn w8 (Sc (.slice (some ⟨g3, 0, none⟩) ts.length c) vs w.heap.size w8.heap.size (w.heap.size + 1) wv sv rv) 0 (.slice a8 n8 c8) s.word from Sl.mono hW8 (fun k hk => .inr ⟨by have := HB7.out.base.chg.size; have := lt_of_obj HB7.out.nd; omega, hk.2, by have := lt_of_obj HB7.out.nd; omega, fun hj => by have := Row.block_lt HB7.out.rw k hj; omega, fun hj => by have := Row.block_lt HB7.out.rs k hj; omega, fun hj => by have := Row.block_lt HB7.out.rr k hj; omega⟩))
                      have HW0 := Lib.hid (show cm.words.length = 0 from by rw [hw0]; rfl)
                      clear hs hC8 HB7 HT7 HPA7 HWI7 hW8 hw0
                      obtain ⟨av, nv, cv, rfl, hnv⟩ := HB8.out.rs.shape3
                      obtain rfl : nv = cm.sets.length := hnv.out
                      have hf2 := HQ2.out
                      have HND := Lib.hid (show w.heap.size + 1 ∉ rowBlock (.slice av cm.sets.length cv) from fun hj => (HB8.out.new _ (.inr (.inl hj))).2 rfl)
                      obtain ⟨m0, m1, m2, m3', m4, m5, mf⟩ := six_cells HB8.out.nd
                      obtain ⟨_, _, _, m3a, m4a, _, mfa⟩ := six_cells_alloc HB8.out.nd
                      obtain ⟨_, _, _, m3b, m4b, _, mfb⟩ := six_cells_alloc (obj_alloc_old HB8.out.nd (.cells #[.string (Lx.strB s.name), .slice a8 n8 c8] 80))
                      obtain ⟨i0, hi, hz0, hz1, hz2⟩ := info_parts Tryd.infoSetR
                      obtain ⟨wa0, wn0, wc0, rfl, hwn0⟩ := HB8.out.rw.shape3
                      have hw0 : wn0 = 0 := by rw [hwn0.out, HW0.out]
                      subst hw0
                      clear m0 m1 m2 m5 hnv hwn0
                      go_wp2_with (at_builtin; refine wpList_append_row _ rfl _ _ 39 rfl 80 i0 _ 2 40 Tryd.underlying39 hi hz0 hz1 hz2 rfl (by decide) _ cm.sets.length sl rfl (HB8.out.rs.kept0 (((Chg.refl [] _).alloc _).alloc _)) _ 1 1 [.string (Lx.strB s.name), .slice a8 n8 c8] rfl rfl (srcNew2 _ _ _ _ _) (by simp [Value.oneCell']) (by unfold maxLen; omega) (by omega) ?_)
                      intro v' w9 r9 q9 g9
                      obtain ⟨av', cv', rfl, _⟩ := r9.shape
                      have h89 := ((((Chg.refl [] w8).alloc _).alloc _).mono (G := rowBlock (.slice av cm.sets.length cv)) (by simp)).trans q9 (fun x hx => .inl hx)
                      have hnd9 := h89.obj HB8.out.nd HND.out
                      have e3 := cell_of_obj hnd9 (j := 4) rfl
                      have ef := free_of_obj hnd9 4
                      have HB9 := Lib.hid (HB8.out.addS HS8.out (((Chg.refl [] _).alloc _).alloc _) r9 q9 (fun x hx => (g9 x hx).imp id (fun h => by omega)) (by omega))
                      clear m3' m4 m3a m4a mf mfa m3b m4b mfb r9 q9 g9 h89 hnd9
                      go_wp2
                      go_roundg g
                      case measure => omega
                      case rel => exact ⟨q + 1, _, _, _, _, _, _, _, by have := HG.out; omega, by have := HQ1.out; simp; omega, by have := HQ2.out; simp; omega, by have := HQ3.out; simp; omega, HB9.out, Lib.hid (by rw [HF.out, HPUT.out])⟩
                    · have HPUT := Lib.hid (put_set2 hs hw0)
                      have hm0 : cm.words.length ≠ 0 := fun h => hw0 (List.eq_nil_of_length_eq_zero h)
                      clear hs hC8 HB7 HT7 HPA7 HWI7 hW8 hw0
                      obtain ⟨av, nv, cv, rfl, hnv⟩ := HB8.out.rw.shape3
                      obtain rfl : nv = cm.words.length := hnv.out
                      have hf2 := HQ1.out
                      have HND := Lib.hid (show w.heap.size + 1 ∉ rowBlock (.slice av cm.words.length cv) from fun hj => (HB8.out.new _ (.inl hj)).2 rfl)
                      obtain ⟨m0, m1, m2, m3', m4, m5, mf⟩ := six_cells HB8.out.nd
                      obtain ⟨_, _, _, m3a, _, _, mfa⟩ := six_cells_alloc HB8.out.nd
                      obtain ⟨_, _, _, m3b, _, _, mfb⟩ := six_cells_alloc (obj_alloc_old HB8.out.nd (.cells #[.string (Lx.strB s.name), .slice a8 n8 c8] 80))
                      obtain ⟨i0, hi, hz0, hz1, hz2⟩ := info_parts Tryd.infoWordR
                      have u2 := cell_of_obj HT8.out (j := 2) rfl
                      have u2a := fun (o : Obj) => ((Chg.refl [] w8).alloc o).cell u2 (by simp)
                      clear m0 m1 m2 m4 m5 hnv
                      go_wp2_with (at_builtin; refine wpList_append_row _ rfl _ _ 38 rfl 78 i0 _ 1 24 Tryd.underlying38 hi hz0 hz1 hz2 rfl (by decide) _ cm.words.length wl rfl (HB8.out.rw.kept0 (((Chg.refl [] _).alloc _).alloc _)) _ 1 1 [.slice a3 n3 c3] rfl rfl (srcNew2 _ _ _ _ _) (by simp [Value.oneCell']) (by unfold maxLen; omega) (by omega) ?_)
                      intro v' w9 r9 q9 g9
                      obtain ⟨av', cv', rfl, _⟩ := r9.shape
                      have h89 := ((((Chg.refl [] w8).alloc _).alloc _).mono (G := rowBlock (.slice av cm.words.length cv)) (by simp)).trans q9 (fun x hx => .inl hx)
                      have hnd9 := h89.obj HB8.out.nd HND.out
                      have e3 := cell_of_obj hnd9 (j := 3) rfl
                      have ef := free_of_obj hnd9 3
                      have HB9 := Lib.hid (HB8.out.addW HWI8.out (((Chg.refl [] _).alloc _).alloc _) r9 q9 (fun x hx => (g9 x hx).imp id (fun h => by omega)) (by omega))
                      clear m3' m3a mf mfa m3b mfb u2 u2a r9 q9 g9 h89 hnd9
                      go_wp2
                      go_roundg g
                      case measure => omega
                      case rel => exact ⟨q + 1, _, _, _, _, _, _, _, by have := HG.out; omega, by have := HQ1.out; simp; omega, by have := HQ2.out; simp; omega, by have := HQ3.out; simp; omega, HB9.out, Lib.hid (by rw [HF.out, HPUT.out])⟩
                · have e2 : (t.kind != 1) = true := by simpa using hK
                  have HF := Lib.hid (show R = .ok cm q from by rw [hr.out]; exact simpleL_stop HT.out hA2 hK)
                  have t0 := cell_of_obj HT6.out (j := 0) rfl
                  clear hA hA2 hK
                  go_wp2
                  go_meet
                  exact ⟨q, cm, wv, sv, rv, wl, sl, rl, HB6.out, HF⟩
        · have hd : decide (q < ts.length) = false := decide_eq_false (by omega)
          have HF := Lib.hid (show R = .ok cm q from by rw [hr.out]; exact simpleL_none (List.getElem?_eq_none (by omega)))
          go_upto_region 2 with (fail)
          go_quiet (fail)
          all_goals
            go_wp2
            go_meet
            exact ⟨q, cm, wv, sv, rv, wl, sl, rl, HB.out.kept0 ((Chg.refl [] _).drewN _), HF⟩
  case rest =>
    obtain ⟨q, cm, wv, sv, rv, wl, sl, rl, hCB, hRq⟩ := hcut
    have HB := Lib.hid hCB
    clear hCB HC0
    obtain ⟨wa, wn, wk, rfl, hwn⟩ := HB.out.rw.shape3
    obtain ⟨sa, sn, sk, rfl, hsn⟩ := HB.out.rs.shape3
    obtain ⟨ra, rn, rc, rfl, hrn⟩ := HB.out.rr.shape3
    have b1 : (wn : Int) ≤ 100001 := by have := HB.out.few.1; have := hwn.out; have := HB.out.base.ps.le; omega
    have b2 : (sn : Int) ≤ 100001 := by have := HB.out.few.2.1; have := hsn.out; have := HB.out.base.ps.le; omega
    have b3 : (rn : Int) ≤ 100001 := by have := HB.out.few.2.2; have := hrn.out; have := HB.out.base.ps.le; omega
    obtain ⟨m0, m1, m2, m3, m4, m5, mf⟩ := six_cells HB.out.nd
    have hcnt := simpleL_count (ts := ts) (ts.length + 1) p ⟨[], [], []⟩ cm q (HR.out.trans hRq.out)
    have hsum : cm.sets.length + cm.words.length + cm.reds.length = sn + wn + rn := by rw [hwn.out, hsn.out, hrn.out]
    simp only [List.length_nil] at hcnt
    by_cases hqp : q = p
    · have hz : sn + wn + rn = 0 := by omega
      have e1 : (((sn : Int) + (wn : Int) + (rn : Int)) == 0) = true := by rw [beq_iff_eq]; omega
      have HF := Lib.hid (show Ps.simpleP ts p = .bad 10 q from by
        have h1 := HR.out.trans hRq.out
        rw [hqp] at h1
        rw [hqp]
        exact simpleP_none h1)
      clear hqp hcnt hsum hz
      have hF := Lib.hid (sfail pb _ c ts vs ln (.ok q deep) wc 10 (by decide) HB.out.base.ps)
      go_wp2_with fail
      refine hF.out.mono ?_
      rintro e w9 ⟨rfl, hP4, hC4⟩
      have HP4 := Lib.hid hP4
      have HC4 := Lib.hid hC4
      have hnd := hC4.obj HB.out.nd (by have := HB.out.base.old.1; simp; omega)
      have hrs := hC4.obj HB.out.base.rs (by have := HB.out.base.old.1; simp; omega)
      clear m0 m1 m2 m3 m4 m5 mf
      obtain ⟨m0, m1, m2, m3, m4, m5, mf⟩ := six_cells hnd
      obtain ⟨r0, r1, r2, r3, r4, r5, rf⟩ := node_cells hrs
      clear hP4 hC4 hnd hrs
      go_wp2_with fail
      refine bodyPost_ret (v := .agg #[.int .i64 5, .slice none 0 0, .string ⟨#[]⟩, .slice wa wn wk, .slice sa sn sk, .slice ra rn rc]) (by simp [results, Tryd.results72, go_sem, r0, r1, r2, r3, r4, r5]) rfl ?_
      rw [HF.out]
      refine HB.out.base.fin6 (F := [w.heap.size]) (st := .bad 10 (posR ts ln q)) HC4.out HP4.out ?_ (by simp) (cs := [.int .i64 5, .slice none 0 0, .string ⟨#[]⟩, .slice wa wn wk, .slice sa sn sk, .slice ra rn rc]) ⟨5, [], none, wa, sa, ra, 0, 0, _, _, _, _, _, _, rfl⟩
      exact (Chg.refl [w.heap.size] w9).six w.heap.size (.int .i64 5) (.slice none 0 0) (.string ⟨#[]⟩) (.slice wa wn wk) (.slice sa sn sk) (.slice ra rn rc) (.inl (by simp))
    · have hz : sn + wn + rn ≠ 0 := by omega
      have e1 : (((sn : Int) + (wn : Int) + (rn : Int)) == 0) = false := by rw [beq_eq_false_iff_ne]; omega
      have HF := Lib.hid (simpleP_ok (HR.out.trans hRq.out) hqp)
      obtain ⟨r0, r1, r2, r3, r4, r5, rf⟩ := node_cells HB.out.base.rs
      clear hqp hcnt hsum hz
      go_wp2_with fail
      refine bodyPost_ret (v := .agg #[.int .i64 5, .slice none 0 0, .string ⟨#[]⟩, .slice wa wn wk, .slice sa sn sk, .slice ra rn rc]) (by simp [results, Tryd.results72, go_sem, r0, r1, r2, r3, r4, r5]) rfl ?_
      rw [HF.out]
      refine HB.out.fin hwn.out hsn.out hrn.out ?_
      exact (Chg.refl [w.heap.size, w.heap.size + 1] wc).six w.heap.size (.int .i64 5) (.slice none 0 0) (.string ⟨#[]⟩) (.slice wa wn wk) (.slice sa sn sk) (.slice ra rn rc) (.inl (by simp))

end Go.Proofs.YtfgbbmnmblchiaaDoor
