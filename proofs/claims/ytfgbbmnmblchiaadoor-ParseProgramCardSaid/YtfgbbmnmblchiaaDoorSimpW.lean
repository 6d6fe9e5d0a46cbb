/-
  A command of words: the walk.
-/
import Derived.Test.YtfgbbmnmblchiaaDoorPm06
namespace Go.Proofs.YtfgbbmnmblchiaaDoor
open Go.RowKit
set_option linter.unusedVariables false

theorem ToksAt.cell6 {w : World} {a : Option Addr} {n c : Nat} {ts : List Lx.Tok} {vs : List Value} (h : ToksAt w (.slice a n c) ts vs) (k : Nat) (t : Lx.Tok) (hk : ts[k]? = some t) :
    ∃ g a' n', a = some ⟨g, 0, none⟩ ∧ w.cell? ⟨g, k * 4, none⟩ = some (.int .i64 t.kind) ∧ w.cell? ⟨g, k * 4 + 1, none⟩ = some (.string (Lx.strB t.text)) ∧ w.cell? ⟨g, k * 4 + 2, none⟩ = some (.slice a' n' n') ∧ w.cell? ⟨g, k * 4 + 3, none⟩ = some (.int .i64 t.pos) ∧ PartsAt w (.slice a' n' n') t.parts ∧ WordIn w (TB (.slice a n c) vs) 0 (.slice a' n' n') t.parts := by
  have hlt := (List.getElem?_eq_some_iff.1 hk).1
  obtain ⟨g, rfl, _, _, hc⟩ := h.cells (by omega)
  obtain ⟨u, hu⟩ : ∃ u, vs[k]? = some u := ⟨_, List.getElem?_eq_getElem (by rw [h.len]; exact hlt)⟩
  obtain ⟨hp, a', n', rfl⟩ := h.parts k t u hk hu
  have := hc k t _ hk hu
  exact ⟨g, a', n', rfl, by rw [Nat.mul_comm]; exact this.kind, by rw [Nat.mul_comm]; exact this.text, by rw [Nat.mul_comm]; exact this.ps, by rw [Nat.mul_comm]; exact this.pos, hp, PartsAt.word hp (fun j hj => .inr (.inr ⟨_, List.mem_of_getElem? hu, hj⟩))⟩

set_option maxHeartbeats 8000000 in
set_option maxRecDepth 10000 in
theorem simple_any (pb : Nat) (a : Option Addr) (c : Nat) (ts : List Lx.Tok) (vs : List Value) (p deep : Nat) (w : World) (h : PS w pb a c ts vs p deep 0) :
    Calls Tryd.prog 67 #[.pointer (some ⟨pb, 0, none⟩)] w fun e w' => RdPost w pb a c ts vs deep (Ps.simpleP ts p) e w' := by
  have HC0 := Lib.hid (CmdB.start h)
  have hfew := h.few
  have hle := h.le
  have GOOD := Lib.hid h.good
  clear h
  obtain ⟨R, hR⟩ : ∃ R, Ps.simpleL ts (ts.length + 1) p ⟨[], [], []⟩ = R := ⟨_, rfl⟩
  have HR := Lib.hid hR
  clear hR
  have hmm := @run_makeMap Tryd.prog
  go_enter Tryd.func67, Tryd.ntmps67
  go_upto_region 2 with (fail)
  have HC0 := Lib.hid HC0.out
  simp only [nodeC] at HC0
  generalize (w.alloc (.cells #[.int .i64 0, .slice none 0 0, .string ⟨#[]⟩, .slice none 0 0, .slice none 0 0, .slice none 0 0] 30)).alloc (.cells #[.int .i64 5, .slice none 0 0, .string ⟨#[]⟩, .slice none 0 0, .slice none 0 0, .slice none 0 0] 30) = w2 at *
  have k1 := HC0.out.base.ps.c1
  go_upto_block 0 with fail
  go_cut [] (fun wx => ∃ (q : Nat) (cm : Ps.Cmd) (wv sv rv : Value) (wl sl rl : List Value), CmdB w pb a c ts vs (w.heap.size + 1) q deep cm wv sv rv wl sl rl wx ∧ Hid (R = .ok cm q))
  case first =>
    go_wp2_with fail
    go_loopg [6, 7, 8, 9] (ts.length + 1) (fun g c6 c7 c8 c9 wr => ∃ (q : Nat) (cm : Ps.Cmd) (wv sv rv : Value) (wl sl rl : List Value), ts.length < q + g ∧ cm.words.length ≤ q ∧ cm.sets.length ≤ q ∧ cm.reds.length ≤ q ∧ CmdB w pb a c ts vs (w.heap.size + 1) q deep cm wv sv rv wl sl rl wr ∧ Hid (R = Ps.simpleL ts g q cm))
    case atStart => exact ⟨p, _, _, _, _, _, _, _, by omega, Nat.zero_le _, Nat.zero_le _, Nat.zero_le _, HC0.out, Lib.hid HR.out.symm⟩
    case round =>
      obtain ⟨q, cm, wv, sv, rv, wl, sl, rl, hg, hq1, hq2, hq3, hCB, hr⟩ := hrel
      have hleq := hCB.base.ps.le
      have HB := Lib.hid hCB
      clear hCB HC0 k1
      cases gk with
      | zero => omega
      | succ g =>
        have k0 := HB.out.base.ps.c0
        have k1 := HB.out.base.ps.c1
        have q0 : (0 : Int) ≤ (q : Int) := by omega
        by_cases hp : q < ts.length
        · have hd : decide (q < ts.length) = true := decide_eq_true hp
          have q2 : (q : Int) < (ts.length : Int) := by omega
          have HG := Lib.hid hg
          have HQ1 := Lib.hid hq1
          have HQ2 := Lib.hid hq2
          have HQ3 := Lib.hid hq3
          clear hg hq1 hq2 hq3
          obtain ⟨t, ht⟩ : ∃ t, ts[q]? = some t := ⟨_, List.getElem?_eq_getElem hp⟩
          have HT := Lib.hid ht
          have GT := Lib.hid (GOOD.out t (List.mem_of_getElem? ht))
          clear ht
          go_upto_region 3 with (fail)
          go_quiet (fail)
          all_goals
            go_upto_region 4 with (fail)
            have HB3 := Lib.hid (HB.out.kept0 ((Chg.refl [] wr).drewN nq))
            generalize wr.drewN nq = w3 at *
            clear HB k0 k1
            have k0 := HB3.out.base.ps.c0
            have k1 := HB3.out.base.ps.c1
            obtain ⟨g3, a3, n3, rfl, y0, y1, y2, y3, hP, hWI⟩ := HB3.out.base.ps.toks.cell6 q t HT.out
            have HPA := Lib.hid hP
            have HWI := Lib.hid hWI
            have q3 : 0 < ts.length := by omega
            clear hP hWI
            have ALC := fun (o : Obj) => (Chg.refl [] w3).alloc o
            have k0a := fun (o : Obj) => (ALC o).cell k0 (by simp)
            have k1a := fun (o : Obj) => (ALC o).cell k1 (by simp)
            have y0a := fun (o : Obj) => (ALC o).cell y0 (by simp)
            have y1a := fun (o : Obj) => (ALC o).cell y1 (by simp)
            have y2a := fun (o : Obj) => (ALC o).cell y2 (by simp)
            have y3a := fun (o : Obj) => (ALC o).cell y3 (by simp)
            clear ALC
            go_cut [6] from 15 to 119 (fun v6 wx => ∃ b, v6 = .pointer (some ⟨b, 0, none⟩) ∧ Chg [] w3 wx ∧ wx.heap[b]? = some (.cells #[.int .i64 t.kind, .string (Lx.strB t.text), .slice a3 n3 n3, .int .i64 t.pos] 65 (0, 0)))
            case first =>
              go_region
              all_goals
                go_wp2
                go_meet
                first
                  | exact ⟨_, rfl, (Chg.refl _ _).drew.alloc _, obj_alloc_new _ _⟩
                  | exact ⟨_, rfl, ((Chg.refl _ _).alloc _).drew, obj_alloc_new _ _⟩
            case rest =>
              obtain ⟨b, rfl, hC4, hT4⟩ := hcut
              have HB4 := Lib.hid (HB3.out.kept0 hC4)
              have HPA4 := Lib.hid (PartsAt.kept0 HPA.out hC4)
              have HWI4 := Lib.hid (Sl.kept HWI.out hC4 (by simp))
              clear hC4 k0 k1 y0 y1 y2 y3 k0a k1a y0a y1a y2a y3a HB3 HPA HWI
              obtain ⟨m1, m2, m3, r1, r2, r3, rl1, hcm⟩ := red_map t.text GT.out.1 wc
              have HT6 := Lib.hid (hcm.obj hT4 (by simp))
              have HB6 := Lib.hid (HB4.out.kept0 hcm)
              have HPA6 := Lib.hid (PartsAt.kept0 HPA4.out hcm)
              have HWI6 := Lib.hid (Sl.kept HWI4.out hcm (by simp))
              have t1 := cell_of_obj HT6.out (j := 1) rfl
              clear hT4 HB4 HPA4 HWI4 hcm
              go_upto_region 6 with (fail)
              clear r1 r2 r3 rl1 t1
              have t0 := cell_of_obj HT6.out (j := 0) rfl
              obtain ⟨rk, hrk⟩ : ∃ rk, Ps.redK t.text = rk := ⟨_, rfl⟩
              have HRK := Lib.hid hrk
              rw [hrk]
              clear hrk
              by_cases hA : t.kind = 2 ∧ 0 < rk
              · have e1 : (t.kind == 2) = true := by rw [beq_iff_eq]; exact hA.1
                have e2 : decide (0 < rk) = true := decide_eq_true hA.2
                have hA2 := hA.2
                have HA := Lib.hid hA
                have HQL := Lib.hid hp
                clear hA
                have k1 := HB6.out.base.ps.c1
                have kf := HB6.out.base.ps.free 1
                go_upto_region 8 with (fail)
                have HB7 := Lib.hid (HB6.out.setAt ((q : Int) + 1) (by omega) (by omega))
                generalize m3.setCell ⟨pb, 1, none⟩ (.int .i64 ((q : Int) + 1)) = w7 at *
                clear HB6 k1 kf t0 HT6 HPA6 HWI6 e1 e2
                have IS := Lib.hid (fun (x : Bool) (hx : Ps.isT ts (q + 1) 1 [] = x) => hx ▸ is_any pb _ c ts vs (q + 1) deep 0 1 [] _ HB7.out.base.ps)
                cases hb : Ps.isT ts (q + 1) 1 [] with
                | false =>
                  have IS1 := Lib.hid (IS.out _ hb)
                  have HF := Lib.hid (show R = .bad 10 (q + 1) from by rw [hr.out]; exact simpleL_red0 HT.out (by rw [HRK.out]; exact HA.out) hb)
                  clear IS hb
                  go_wp2_with fail
                  refine IS1.out.mono ?_
                  rintro e w8 ⟨rfl, n8, rfl⟩
                  have HB8 := Lib.hid (HB7.out.kept0 ((Chg.refl [] w7).drewN n8))
                  generalize w7.drewN n8 = w8 at *
                  clear IS1 HB7
                  have hF := Lib.hid (fail_any pb _ c ts vs (q + 1) deep 10 w8 HB8.out.base.ps)
                  go_wp2_with fail
                  refine hF.out.mono ?_
                  rintro e w9 ⟨rfl, hP4, hC4⟩
                  have HBD := Lib.hid (HB8.out.base.bad hC4 hP4)
                  obtain ⟨r0, r1, r2, r3, r4, r5, rf⟩ := node_cells HBD.out.rs
                  clear hP4 hC4
                  go_wp2_with fail
                  refine bodyPost_ret (v := .tuple #[.agg (nodeC 0 (.slice none 0 0)), .bool false]) (by simp [results, Tryd.results67, go_sem, nodeC, r0, r1, r2, r3, r4, r5]) rfl ?_
                  rw [simpleP_bad (HR.out.trans HF.out)]
                  refine HBD.out.fin ?_
                  exact (Chg.refl _ _).six _ _ _ _ _ _ _ (.inl (by simp))
                | true =>
                  have hlt2 := isT_lt hb
                  obtain ⟨u, hu⟩ : ∃ u, ts[q + 1]? = some u := ⟨_, List.getElem?_eq_getElem hlt2⟩
                  have hku : u.kind = 1 := by rw [isT_some hu] at hb; simpa using hb
                  have IS1 := Lib.hid (IS.out _ hb)
                  have HF := Lib.hid (show R = Ps.simpleL ts g (q + 2) { cm with reds := cm.reds ++ [⟨rk, u.parts⟩] } from by rw [hr.out, ← HRK.out]; exact simpleL_red HT.out (by rw [HRK.out]; exact HA.out) hu hku)
                  have HU := Lib.hid hu
                  clear IS hb hku hu
                  go_wp2_with fail
                  refine IS1.out.mono ?_
                  rintro e w8 ⟨rfl, n8, rfl⟩
                  have HB8 := Lib.hid (HB7.out.kept0 ((Chg.refl [] w7).drewN n8))
                  generalize w7.drewN n8 = w8 at *
                  clear IS1 HB7
                  obtain ⟨q', hq'⟩ : ∃ q', q + 1 = q' := ⟨_, rfl⟩
                  rw [hq'] at HB8 HU hlt2
                  have HQ' := Lib.hid hq'
                  clear hq' hp q0 q2
                  go_upto_region 10 with (fail)
                  obtain ⟨g4, a4, n4, hg4, y0, y1, y2, hWI⟩ := HB8.out.base.ps.toks.cell5 q' u HU.out
                  cases hg4
                  have HWI := Lib.hid hWI
                  have q0 : (0 : Int) ≤ (q' : Int) := by omega
                  have q2 : (q' : Int) < (ts.length : Int) := by omega
                  have k0 := HB8.out.base.ps.c0
                  have k1 := HB8.out.base.ps.c1
                  obtain ⟨m0, m1, m2, m3, m4, m5, mf⟩ := six_cells HB8.out.nd
                  obtain ⟨av, nv, cv, rfl, hnv⟩ := HB8.out.rr.shape3
                  obtain rfl : nv = cm.reds.length := hnv.out
                  have hf2 := HQ3.out
                  have hf3 := HQ'.out
                  have HND := Lib.hid (show w.heap.size + 1 ∉ rowBlock (.slice av cm.reds.length cv) from fun hj => (HB8.out.new _ (.inr (.inr hj))).2 rfl)
                  have k0a := fun (o : Obj) => ((Chg.refl [] w8).alloc o).cell k0 (by simp)
                  have k1a := fun (o : Obj) => ((Chg.refl [] w8).alloc o).cell k1 (by simp)
                  have m5a := fun (o : Obj) => ((Chg.refl [] w8).alloc o).cell m5 (by simp)
                  obtain ⟨i0, hi, hz0, hz1, hz2⟩ := info_parts Tryd.infoRed
                  clear hWI y0 y1 m0 m1 m2 m3 m4 hnv
                  go_cut [] from 15 to 119 (fun wx => ∃ v', CmdB w pb (some ⟨g3, 0, none⟩) c ts vs (w.heap.size + 1) q' deep { cm with reds := cm.reds ++ [⟨rk, u.parts⟩] } wv sv v' wl sl (rl ++ [.int .i64 rk, .slice a4 n4 n4]) wx)
                  case first =>
                    go_region_law ((refine step_append_row (by rfl) _ _ 28 (by rfl) 51 i0 _ 2 32 Tryd.underlying28 hi hz0 hz1 hz2 (by rfl) (by decide) _ cm.reds.length rl (by rfl) (HB8.out.rr.kept0 ((Chg.refl [] _).drew.alloc _)) _ 1 1 [.int .i64 rk, .slice a4 n4 n4] (by rfl) (by rfl) (srcNew _ _ _ _) (by simp [Value.oneCell']) (by unfold maxLen; omega) (by omega) ?_; intro v' w10 r10 q10 g10; obtain ⟨av', cv', rfl, _⟩ := r10.shape; have hx10 := (((Chg.refl (rowBlock (.slice av cm.reds.length cv)) w8).drew.alloc _).trans q10 (fun x hx => .inl hx)).obj HB8.out.nd HND.out; have yf := free_of_obj hx10 5; have ym := cell_of_obj hx10 (j := 5) rfl; have FIN := Lib.hid (And.intro r10 (And.intro q10 g10)); clear r10 q10 g10 hx10))
                    all_goals
                      go_wp2
                      go_meet
                      first
                        | exact ⟨_, HB8.out.addR HWI.out ((Chg.refl [] _).drew.alloc _) FIN.out.1 FIN.out.2.1 (fun x hx => (FIN.out.2.2 x hx).imp id (fun h => by simp at h; omega)) (by omega)⟩
                        | exact ⟨_, (HB8.out.addR HWI.out ((Chg.refl [] _).drew.alloc _) FIN.out.1 FIN.out.2.1 (fun x hx => (FIN.out.2.2 x hx).imp id (fun h => by simp at h; omega)) (by omega)).kept0 (Chg.refl [] _).drew⟩
                  case rest =>
                    obtain ⟨v', hW9⟩ := hcut
                    have HW9 := Lib.hid hW9
                    clear hW9 k0 k1 k0a k1a m5 m5a mf HB8 y2
                    have k1 := HW9.out.base.ps.c1
                    have kf := HW9.out.base.ps.free 1
                    go_wp2
                    go_roundg g
                    case measure => omega
                    case rel => exact ⟨q' + 1, _, _, _, _, _, _, _, by have := HG.out; have := HQ'.out; omega, by have := HQ1.out; have := HQ'.out; simp; omega, by have := HQ2.out; have := HQ'.out; simp; omega, by have := HQ3.out; have := HQ'.out; simp; omega, HW9.out.setAt _ (by go_num) (by omega), Lib.hid (by rw [HF.out, ← HQ'.out])⟩
              · by_cases hK : t.kind = 1
                · have e1 : (t.kind == 2) = false := by rw [hK]; rfl
                  have e2 : (t.kind != 1) = false := by rw [hK]; rfl
                  have HK := Lib.hid hK
                  have HF := Lib.hid (show R = Ps.simpleL ts g (q + 1) (cm.put t) from by rw [hr.out]; exact simpleL_word HT.out hK)
                  clear hA hK
                  go_upto_region 13 with (fail)
                  have t0 := cell_of_obj HT6.out (j := 0) rfl
                  have t1 := cell_of_obj HT6.out (j := 1) rfl
                  have t2 := cell_of_obj HT6.out (j := 2) rfl
                  have t3 := cell_of_obj HT6.out (j := 3) rfl
                  obtain ⟨mv, hmv⟩ := HB6.out.base.ps.ml
                  have SET := Lib.hid (set_any t a3 n3 n3 mv m3 HPA6.out HK.out GT.out hmv)
                  clear hmv
                  go_wp2_with fail
                  refine SET.out.mono ?_
                  rintro e w8 ⟨hC8, hS⟩
                  have HB8 := Lib.hid (HB6.out.kept0 hC8)
                  have HT8 := Lib.hid (hC8.obj HT6.out (by simp))
                  have HWI8 := Lib.hid (Sl.kept HWI6.out hC8 (by simp))
                  clear SET t0 t1 t2 t3 e1 e2
                  cases hs : Ps.setP t with
                  | none =>
                    rw [hs] at hS
                    obtain rfl : e = .returned (.tuple #[.agg #[.string ⟨#[]⟩, .slice none 0 0], .bool false]) := hS
                    have HPUT := Lib.hid (put_word (cm := cm) hs)
                    clear hs hC8 HB6 HT6 HPA6 HWI6
                    obtain ⟨av, nv, cv, rfl, hnv⟩ := HB8.out.rw.shape3
                    obtain rfl : nv = cm.words.length := hnv.out
                    have hf2 := HQ1.out
                    have k1 := HB8.out.base.ps.c1
                    have kf := HB8.out.base.ps.free 1
                    have HND := Lib.hid (show w.heap.size + 1 ∉ rowBlock (.slice av cm.words.length cv) from fun hj => (HB8.out.new _ (.inl hj)).2 rfl)
                    have HPB := Lib.hid (show pb ∉ rowBlock (.slice av cm.words.length cv) from fun hj => by have := (HB8.out.new _ (.inl hj)).1; have := HB8.out.base.old.1; omega)
                    obtain ⟨m0, m1, m2, m3', m4, m5, mf⟩ := six_cells HB8.out.nd
                    obtain ⟨_, _, _, m3a, _, _, mfa⟩ := six_cells_alloc HB8.out.nd
                    obtain ⟨_, _, _, m3b, _, _, mfb⟩ := six_cells_alloc (obj_alloc_old HB8.out.nd (.cells #[.string ⟨#[]⟩, .slice none 0 0] 77))
                    obtain ⟨i0, hi, hz0, hz1, hz2⟩ := info_parts Tryd.infoWord
                    have u2 := cell_of_obj HT8.out (j := 2) rfl
                    have u2a := fun (o : Obj) => ((Chg.refl [] w8).alloc o).cell u2 (by simp)
                    clear m0 m1 m2 m4 m5 hnv
                    go_wp2_with (at_builtin; refine wpList_append_row _ rfl _ _ 26 rfl 49 i0 _ 1 24 Tryd.underlying26 hi hz0 hz1 hz2 rfl (by decide) _ cm.words.length wl rfl (HB8.out.rw.kept0 (((Chg.refl [] _).alloc _).alloc _)) _ 1 1 [.slice a3 n3 n3] rfl rfl (srcNew2 _ _ _ _ _) (by simp [Value.oneCell']) (by unfold maxLen; omega) (by omega) ?_)
                    intro v' w9 r9 q9 g9
                    obtain ⟨av', cv', rfl, _⟩ := r9.shape
                    have h89 := ((((Chg.refl [] w8).alloc _).alloc _).mono (G := rowBlock (.slice av cm.words.length cv)) (by simp)).trans q9 (fun x hx => .inl hx)
                    have hnd9 := h89.obj HB8.out.nd HND.out
                    have e3 := cell_of_obj hnd9 (j := 3) rfl
                    have ef := free_of_obj hnd9 3
                    have k19 := h89.cell k1 HPB.out
                    have kf9 := free_of_obj (h89.obj HB8.out.base.ps.p HPB.out) 1
                    have HB9 := Lib.hid (HB8.out.addW HWI8.out (((Chg.refl [] _).alloc _).alloc _) r9 q9 (fun x hx => (g9 x hx).imp id (fun h => by omega)) (by omega))
                    clear k1 kf m3' m3a mf mfa m3b mfb u2 u2a r9 q9 g9 h89 hnd9
                    go_wp2
                    go_roundg g
                    case measure => omega
                    case rel => exact ⟨q + 1, _, _, _, _, _, _, _, by have := HG.out; omega, by have := HQ1.out; simp; omega, by have := HQ2.out; simp; omega, by have := HQ3.out; simp; omega, HB9.out.setAt _ (by go_num) (by omega), Lib.hid (by rw [HF.out, HPUT.out])⟩
                  | some s =>
                    rw [hs] at hS
                    obtain ⟨a8, n8, c8, off, rfl, hW8⟩ := hS
                    by_cases hw0 : cm.words = []
                    · have HPUT := Lib.hid (put_set hs hw0)
                      have HS8 := Lib.hid (show WordIn w8 (Sc (.slice (some ⟨g3, 0, none⟩) ts.length c) vs w.heap.size w8.heap.size (w.heap.size + 1) wv sv rv) off (.slice a8 n8 c8) s.word from Sl.mono hW8 (fun k hk => .inr ⟨by have := HB6.out.base.chg.size; have := lt_of_obj HB6.out.nd; omega, hk.2, by have := lt_of_obj HB6.out.nd; omega, fun hj => by have := Row.block_lt HB6.out.rw k hj; omega, fun hj => by have := Row.block_lt HB6.out.rs k hj; omega, fun hj => by have := Row.block_lt HB6.out.rr k hj; omega⟩))
                      have HW0 := Lib.hid (show cm.words.length = 0 from by rw [hw0]; rfl)
                      clear hs hC8 HB6 HT6 HPA6 HWI6 hW8 hw0
                      obtain ⟨av, nv, cv, rfl, hnv⟩ := HB8.out.rs.shape3
                      obtain rfl : nv = cm.sets.length := hnv.out
                      have hf2 := HQ2.out
                      have k1 := HB8.out.base.ps.c1
                      have HND := Lib.hid (show w.heap.size + 1 ∉ rowBlock (.slice av cm.sets.length cv) from fun hj => (HB8.out.new _ (.inr (.inl hj))).2 rfl)
                      have HPB := Lib.hid (show pb ∉ rowBlock (.slice av cm.sets.length cv) from fun hj => by have := (HB8.out.new _ (.inr (.inl hj))).1; have := HB8.out.base.old.1; omega)
                      obtain ⟨m0, m1, m2, m3', m4, m5, mf⟩ := six_cells HB8.out.nd
                      obtain ⟨_, _, _, m3a, m4a, _, mfa⟩ := six_cells_alloc HB8.out.nd
                      obtain ⟨_, _, _, m3b, m4b, _, mfb⟩ := six_cells_alloc (obj_alloc_old HB8.out.nd (.cells #[.string (Lx.strB s.name), .slice a8 n8 c8] 77))
                      obtain ⟨i0, hi, hz0, hz1, hz2⟩ := info_parts Tryd.infoSet
                      obtain ⟨wa0, wn0, wc0, rfl, hwn0⟩ := HB8.out.rw.shape3
                      have hw0 : wn0 = 0 := by rw [hwn0.out, HW0.out]
                      subst hw0
                      clear m0 m1 m2 m5 hnv hwn0
                      go_wp2_with (at_builtin; refine wpList_append_row _ rfl _ _ 27 rfl 77 i0 _ 2 40 Tryd.underlying27 hi hz0 hz1 hz2 rfl (by decide) _ cm.sets.length sl rfl (HB8.out.rs.kept0 (((Chg.refl [] _).alloc _).alloc _)) _ 1 1 [.string (Lx.strB s.name), .slice a8 n8 c8] rfl rfl (srcNew2 _ _ _ _ _) (by simp [Value.oneCell']) (by unfold maxLen; omega) (by omega) ?_)
                      intro v' w9 r9 q9 g9
                      obtain ⟨av', cv', rfl, _⟩ := r9.shape
                      have h89 := ((((Chg.refl [] w8).alloc _).alloc _).mono (G := rowBlock (.slice av cm.sets.length cv)) (by simp)).trans q9 (fun x hx => .inl hx)
                      have hnd9 := h89.obj HB8.out.nd HND.out
                      have e3 := cell_of_obj hnd9 (j := 4) rfl
                      have ef := free_of_obj hnd9 4
                      have k19 := h89.cell k1 HPB.out
                      have kf9 := free_of_obj (h89.obj HB8.out.base.ps.p HPB.out) 1
                      have HB9 := Lib.hid (HB8.out.addS HS8.out (((Chg.refl [] _).alloc _).alloc _) r9 q9 (fun x hx => (g9 x hx).imp id (fun h => by omega)) (by omega))
                      clear k1 m3' m4 m3a m4a mf mfa m3b m4b mfb r9 q9 g9 h89 hnd9
                      go_wp2
                      go_roundg g
                      case measure => omega
                      case rel => exact ⟨q + 1, _, _, _, _, _, _, _, by have := HG.out; omega, by have := HQ1.out; simp; omega, by have := HQ2.out; simp; omega, by have := HQ3.out; simp; omega, HB9.out.setAt _ (by go_num) (by omega), Lib.hid (by rw [HF.out, HPUT.out])⟩
                    · have HPUT := Lib.hid (put_set2 hs hw0)
                      have hm0 : cm.words.length ≠ 0 := fun h => hw0 (List.eq_nil_of_length_eq_zero h)
                      clear hs hC8 HB6 HT6 HPA6 HWI6 hW8 hw0
                      obtain ⟨av, nv, cv, rfl, hnv⟩ := HB8.out.rw.shape3
                      obtain rfl : nv = cm.words.length := hnv.out
                      have hf2 := HQ1.out
                      have k1 := HB8.out.base.ps.c1
                      have kf := HB8.out.base.ps.free 1
                      have HND := Lib.hid (show w.heap.size + 1 ∉ rowBlock (.slice av cm.words.length cv) from fun hj => (HB8.out.new _ (.inl hj)).2 rfl)
                      have HPB := Lib.hid (show pb ∉ rowBlock (.slice av cm.words.length cv) from fun hj => by have := (HB8.out.new _ (.inl hj)).1; have := HB8.out.base.old.1; omega)
                      obtain ⟨m0, m1, m2, m3', m4, m5, mf⟩ := six_cells HB8.out.nd
                      obtain ⟨_, _, _, m3a, _, _, mfa⟩ := six_cells_alloc HB8.out.nd
                      obtain ⟨_, _, _, m3b, _, _, mfb⟩ := six_cells_alloc (obj_alloc_old HB8.out.nd (.cells #[.string (Lx.strB s.name), .slice a8 n8 c8] 77))
                      obtain ⟨i0, hi, hz0, hz1, hz2⟩ := info_parts Tryd.infoWord
                      have u2 := cell_of_obj HT8.out (j := 2) rfl
                      have u2a := fun (o : Obj) => ((Chg.refl [] w8).alloc o).cell u2 (by simp)
                      clear m0 m1 m2 m4 m5 hnv
                      go_wp2_with (at_builtin; refine wpList_append_row _ rfl _ _ 26 rfl 49 i0 _ 1 24 Tryd.underlying26 hi hz0 hz1 hz2 rfl (by decide) _ cm.words.length wl rfl (HB8.out.rw.kept0 (((Chg.refl [] _).alloc _).alloc _)) _ 1 1 [.slice a3 n3 n3] rfl rfl (srcNew2 _ _ _ _ _) (by simp [Value.oneCell']) (by unfold maxLen; omega) (by omega) ?_)
                      intro v' w9 r9 q9 g9
                      obtain ⟨av', cv', rfl, _⟩ := r9.shape
                      have h89 := ((((Chg.refl [] w8).alloc _).alloc _).mono (G := rowBlock (.slice av cm.words.length cv)) (by simp)).trans q9 (fun x hx => .inl hx)
                      have hnd9 := h89.obj HB8.out.nd HND.out
                      have e3 := cell_of_obj hnd9 (j := 3) rfl
                      have ef := free_of_obj hnd9 3
                      have k19 := h89.cell k1 HPB.out
                      have kf9 := free_of_obj (h89.obj HB8.out.base.ps.p HPB.out) 1
                      have HB9 := Lib.hid (HB8.out.addW HWI8.out (((Chg.refl [] _).alloc _).alloc _) r9 q9 (fun x hx => (g9 x hx).imp id (fun h => by omega)) (by omega))
                      clear k1 kf m3' m3a mf mfa m3b mfb u2 u2a r9 q9 g9 h89 hnd9
                      go_wp2
                      go_roundg g
                      case measure => omega
                      case rel => exact ⟨q + 1, _, _, _, _, _, _, _, by have := HG.out; omega, by have := HQ1.out; simp; omega, by have := HQ2.out; simp; omega, by have := HQ3.out; simp; omega, HB9.out.setAt _ (by go_num) (by omega), Lib.hid (by rw [HF.out, HPUT.out])⟩
                · have e2 : (t.kind != 1) = true := by simpa using hK
                  have HF := Lib.hid (show R = .ok cm q from by rw [hr.out]; exact simpleL_stop HT.out (by rw [HRK.out]; exact hA) hK)
                  by_cases hK2 : t.kind = 2
                  · have e1 : (t.kind == 2) = true := by rw [beq_iff_eq]; exact hK2
                    have e3 : decide (0 < rk) = false := decide_eq_false (fun h => hA ⟨hK2, h⟩)
                    clear hA hK hK2
                    go_wp2
                    go_meet
                    exact ⟨q, cm, wv, sv, rv, wl, sl, rl, HB6.out, HF⟩
                  · have e1 : (t.kind == 2) = false := by rw [beq_eq_false_iff_ne]; exact hK2
                    clear hA hK hK2
                    go_wp2
                    go_meet
                    exact ⟨q, cm, wv, sv, rv, wl, sl, rl, HB6.out, HF⟩
        · have hd : decide (q < ts.length) = false := decide_eq_false (by omega)
          have HF := Lib.hid (show R = .ok cm q from by rw [hr.out]; exact simpleL_none (List.getElem?_eq_none (by omega)))
          go_upto_region 3 with (fail)
          go_quiet (fail)
          all_goals
            go_wp2
            go_meet
            exact ⟨q, cm, wv, sv, rv, wl, sl, rl, HB.out.kept0 ((Chg.refl [] _).drewN _), HF⟩
  case rest =>
    obtain ⟨q, cm, wv, sv, rv, wl, sl, rl, hCB, hRq⟩ := hcut
    have HB := Lib.hid hCB
    have k1b := HB.out.base.ps.c1
    clear hCB HC0 k1
    by_cases hqp : q = p
    · have e1 : ((q : Int) == (p : Int)) = true := by rw [hqp]; simp
      have HF := Lib.hid (show Ps.simpleP ts p = .bad 10 q from by
        have h1 := HR.out.trans hRq.out
        rw [hqp] at h1
        rw [hqp]
        exact simpleP_none h1)
      clear hqp
      have hF := Lib.hid (fail_any pb _ c ts vs q deep 10 wc HB.out.base.ps)
      go_wp2_with fail
      refine hF.out.mono ?_
      rintro e w9 ⟨rfl, hP4, hC4⟩
      have HBD := Lib.hid (HB.out.base.bad hC4 hP4)
      obtain ⟨r0, r1, r2, r3, r4, r5, rf⟩ := node_cells HBD.out.rs
      clear hP4 hC4
      go_wp2_with fail
      refine bodyPost_ret (v := .tuple #[.agg (nodeC 0 (.slice none 0 0)), .bool false]) (by simp [results, Tryd.results67, go_sem, nodeC, r0, r1, r2, r3, r4, r5]) rfl ?_
      rw [HF.out]
      refine HBD.out.fin ?_
      exact (Chg.refl _ _).six _ _ _ _ _ _ _ (.inl (by simp))
    · have e1 : ((q : Int) == (p : Int)) = false := by rw [beq_eq_false_iff_ne]; omega
      have HF := Lib.hid (simpleP_ok (HR.out.trans hRq.out) hqp)
      clear hqp
      obtain ⟨wa, wn, wk, rfl, hwn⟩ := HB.out.rw.shape3
      obtain ⟨sa, sn, sk, rfl, hsn⟩ := HB.out.rs.shape3
      obtain ⟨ra, rn, rc, rfl, hrn⟩ := HB.out.rr.shape3
      have HW1 := Lib.hid (fun (W : World) => clip_words wa wn wk (by obtain ⟨_, _, hv, h1, _⟩ := HB.out.rw.shape; cases hv; exact h1) (by obtain ⟨_, _, hv, _, h1⟩ := HB.out.rw.shape; cases hv; exact h1) W)
      have HW2 := Lib.hid (fun (W : World) => clip_sets sa sn sk (by obtain ⟨_, _, hv, h1, _⟩ := HB.out.rs.shape; cases hv; exact h1) (by obtain ⟨_, _, hv, _, h1⟩ := HB.out.rs.shape; cases hv; exact h1) W)
      have HW3 := Lib.hid (fun (W : World) => clip_reds ra rn rc (by obtain ⟨_, _, hv, h1, _⟩ := HB.out.rr.shape; cases hv; exact h1) (by obtain ⟨_, _, hv, _, h1⟩ := HB.out.rr.shape; cases hv; exact h1) W)
      go_upto_region 20 with (fail)
      obtain ⟨m0, m1, m2, m3, m4, m5, mf⟩ := six_cells HB.out.nd
      clear k1b
      go_cut [] (fun wx => Chg [w.heap.size + 1] wc wx ∧ wx.heap[w.heap.size + 1]? = some (.cells #[.int .i64 5, .slice none 0 0, .string ⟨#[]⟩, .slice wa wn wn, .slice sa sn sn, .slice ra rn rn] 30 (0, 0)))
      case first =>
        go_region_law ((go_simp; first | (refine (HW1.out _).mono ?_; rintro e w5 ⟨rfl, rfl⟩) | (refine (HW2.out _).mono ?_; rintro e w6 ⟨rfl, rfl⟩) | (refine (HW3.out _).mono ?_; rintro e w7 ⟨rfl, rfl⟩)))
        all_goals
          go_wp2
          go_meet
          first
            | exact ⟨(((Chg.refl _ _).setCell _ _ (.inl (by simp))).setCell _ _ (.inl (by simp))).setCell _ _ (.inl (by simp)) |>.drew, obj_setCell (obj_setCell (obj_setCell HB.out.nd 3 _) 4 _) 5 _⟩
      case rest =>
        obtain ⟨hC9, hN9⟩ := hcut
        have HC9 := Lib.hid hC9
        clear m0 m1 m2 m3 m4 m5 mf hC9
        obtain ⟨m0, m1, m2, m3, m4, m5, mf⟩ := six_cells hN9
        clear hN9
        obtain ⟨r0, r1, r2, r3, r4, r5, rf⟩ := node_cells (HC9.out.obj HB.out.base.rs (by simp))
        go_wp2_with fail
        refine bodyPost_ret (v := .tuple #[.agg #[.int .i64 5, .slice none 0 0, .string ⟨#[]⟩, .slice wa wn wn, .slice sa sn sn, .slice ra rn rn], .bool true]) (by simp [results, Tryd.results67, go_sem, r0, r1, r2, r3, r4, r5]) rfl ?_
        rw [HF.out]
        refine HB.out.fin hwn.out hsn.out hrn.out ?_
        exact (HC9.out.mono (by simp)).six _ _ _ _ _ _ _ (.inl (by simp))

end Go.Proofs.YtfgbbmnmblchiaaDoor
