/-
  A 'for': the walk.
-/
import Derived.Test.YtfgbbmnmblchiaaDoorPm06
namespace Go.Proofs.YtfgbbmnmblchiaaDoor
open Go.RowKit
set_option linter.unusedVariables false

set_option maxHeartbeats 8000000 in
set_option maxRecDepth 10000 in
theorem each_any (pb : Nat) (a : Option Addr) (c : Nat) (ts : List Lx.Tok) (vs : List Value) (p deep : Nat) (cmd : Nat → Ps.Res Ps.Node) (hli : ListOk pb a c ts vs deep cmd) (hmv : Moves cmd) (w : World) (h : PS w pb a c ts vs p deep 0) :
    Calls Tryd.prog 81 #[.pointer (some ⟨pb, 0, none⟩)] w fun e w' => RdPost w pb a c ts vs deep (Ps.eachP ts cmd p) e w' := by
  have HW0 := Lib.hid (WordsB.start h 8)
  have HLI := Lib.hid hli
  have hfew := h.few
  have hle := h.le
  have HLT := Lib.hid h.lt
  clear h hli
  cases hb : Ps.isT ts p 1 [] with
  | false =>
    have HR := Lib.hid (eachP_1 (cmd := cmd) hb)
    go_enter Tryd.func81, Tryd.ntmps81
    go_upto_region 2 with (fail)
    have HW0 := Lib.hid HW0.out
    simp only [nodeC] at HW0
    generalize (w.alloc (.cells #[.int .i64 0, .slice none 0 0, .string ⟨#[]⟩, .slice none 0 0, .slice none 0 0, .slice none 0 0] 30)).alloc (.cells #[.int .i64 8, .slice none 0 0, .string ⟨#[]⟩, .slice none 0 0, .slice none 0 0, .slice none 0 0] 30) = w2 at *
    have I1 := Lib.hid (fun n => is_any pb a c ts vs p deep 0 1 [] _ (HW0.out.base.ps.drewN n))
    rw [hb] at I1
    clear hb
    go_quiet ((go_at_call 29; exact Calls.quiet_of (I1.out _)))
    all_goals
      have HW3 := Lib.hid (HW0.out.kept0 ((Chg.refl [] w2).drewN nq))
      generalize w2.drewN nq = w3 at *
      have hF := Lib.hid (fail_any pb a c ts vs p deep 10 w3 HW3.out.base.ps)
      go_wp2_with fail
      refine hF.out.mono ?_
      rintro e w4 ⟨rfl, hP4, hC4⟩
      have HBD := Lib.hid (HW3.out.base.bad hC4 hP4)
      obtain ⟨r0, r1, r2, r3, r4, r5, rf⟩ := node_cells HBD.out.rs
      clear hP4 hC4
      go_wp2_with fail
      refine bodyPost_ret (v := .tuple #[.agg (nodeC 0 (.slice none 0 0)), .bool false]) (by simp [results, Tryd.results81, go_sem, nodeC, r0, r1, r2, r3, r4, r5]) rfl ?_
      rw [HR.out]
      refine HBD.out.fin ?_
      exact (Chg.refl _ _).six _ _ _ _ _ _ _ (.inl (by simp))
  | true =>
    have hlt := isT_lt hb
    obtain ⟨t, ht⟩ : ∃ t, ts[p]? = some t := ⟨_, List.getElem?_eq_getElem hlt⟩
    have HK := Lib.hid (show t.kind = 1 from by rw [isT_some ht] at hb; simpa using hb)
    obtain ⟨nb, hnb⟩ : ∃ nb, Lx.isName t.text = nb := ⟨_, rfl⟩
    have HTL := Lib.hid (HW0.out.base.ps.good t (List.mem_of_getElem? ht)).1
    have p0 : (0 : Int) ≤ (p : Int) := by omega
    have p2 : (p : Int) < (ts.length : Int) := by omega
    have p3 : 0 < ts.length := by omega
    go_enter Tryd.func81, Tryd.ntmps81
    go_upto_region 2 with (fail)
    have HW0 := Lib.hid HW0.out
    simp only [nodeC] at HW0
    generalize (w.alloc (.cells #[.int .i64 0, .slice none 0 0, .string ⟨#[]⟩, .slice none 0 0, .slice none 0 0, .slice none 0 0] 30)).alloc (.cells #[.int .i64 8, .slice none 0 0, .string ⟨#[]⟩, .slice none 0 0, .slice none 0 0, .slice none 0 0] 30) = w2 at *
    have I1 := Lib.hid (fun W (h : PS W pb a c ts vs p deep 0) => is_any pb a c ts vs p deep 0 1 [] W h)
    rw [hb] at I1
    have NM := Lib.hid (fun W => Name_any t.text W (by have := HTL.out; omega))
    rw [hnb] at NM
    have HT := Lib.hid ht
    obtain ⟨g1, a3, n3, rfl, y0, y1, y2, y3, hW⟩ := HW0.out.base.ps.toks.cell4 p t ht
    have HY := Lib.hid y1
    have z0 := HW0.out.base.ps.c0
    have z1 := HW0.out.base.ps.c1
    clear ht hW y0 y2 y3 hb
    go_cut [25] (fun v25 wc => v25 = .bool (!nb) ∧ WordsB w pb (some ⟨g1, 0, none⟩) c ts vs w.heap.size (w.heap.size + 1) 8 [] p deep [] (.slice none 0 0) [] wc)
    case first =>
      cases nb
      all_goals
        go_region_law ((first | (go_simp; refine (I1.out _ (HW0.out.base.ps.chg0 (Chg.refl [] _).drew)).mono ?_; rintro e w3 ⟨rfl, n1, rfl⟩) | (go_simp; refine (NM.out _).mono ?_; rintro e w4 ⟨rfl, hC4⟩; have HW4 := Lib.hid (HW0.out.kept0 (((Chg.refl [] w2).drewN _).then0 hC4)); clear hC4)))
        all_goals
          go_wp2
          go_meet
          exact ⟨rfl, HW4.out⟩
    case rest =>
      obtain ⟨rfl, hW4⟩ := hcut
      have HW4 := Lib.hid hW4
      clear hW4 z0 z1 y1 HW0 HY
      cases nb with
      | false =>
        have HR := Lib.hid (eachP_2 (cmd := cmd) HT.out hnb)
        clear hnb
        have hF := Lib.hid (fail_any pb _ c ts vs p deep 10 wc HW4.out.base.ps)
        go_wp2_with fail
        refine hF.out.mono ?_
        rintro e w5 ⟨rfl, hP4, hC4⟩
        have HBD := Lib.hid (HW4.out.base.bad hC4 hP4)
        obtain ⟨r0, r1, r2, r3, r4, r5, rf⟩ := node_cells HBD.out.rs
        clear hP4 hC4
        go_wp2_with fail
        refine bodyPost_ret (v := .tuple #[.agg (nodeC 0 (.slice none 0 0)), .bool false]) (by simp [results, Tryd.results81, go_sem, nodeC, r0, r1, r2, r3, r4, r5]) rfl ?_
        rw [HR.out]
        refine HBD.out.fin ?_
        exact (Chg.refl _ _).six _ _ _ _ _ _ _ (.inl (by simp))
      | true =>
        obtain ⟨g2, a3, n3, hg2, y0, y1, y2, y3, hW⟩ := HW4.out.base.ps.toks.cell4 p t HT.out
        cases hg2
        have k0 := HW4.out.base.ps.c0
        have k1 := HW4.out.base.ps.c1
        obtain ⟨n0, n1, n2, n3, n4, n5, nf⟩ := six_cells HW4.out.nd
        clear hW y0 y2 y3
        go_upto_region 4 with (fail)
        go_cut [] (fun wx => WordsB w pb (some ⟨g1, 0, none⟩) c ts vs w.heap.size (w.heap.size + 1) 8 t.text p deep [] (.slice none 0 0) [] wx)
        case first =>
          go_region
          all_goals
            go_wp2
            go_meet
            first
              | exact (HW4.out.setName t.text).kept0 ((Chg.refl [] _).drew)
              | exact (HW4.out.setName t.text)
              | exact (HW4.out.kept0 (Chg.refl [] _).drew).setName t.text
        case rest =>
          have HW5 := Lib.hid hcut
          clear hcut k0 k1 y1 n0 n1 n2 n3 n4 n5 nf HW4
          have k1 := HW5.out.base.ps.c1
          have kf := HW5.out.base.ps.free 1
          go_upto_region 6 with (fail)
          have HW6 := Lib.hid (HW5.out.setAt ((p : Int) + 1) (by omega) (by omega))
          generalize wc.setCell ⟨pb, 1, none⟩ (.int .i64 ((p : Int) + 1)) = w6 at *
          clear HW5 k1 kf
          obtain ⟨D, hD⟩ : ∃ D, Ps.wantP ts (p + 1) 1 Ps.kwIn = D := ⟨_, rfl⟩
          go_wp2_with fail
          refine (want_any pb _ c ts vs (p + 1) deep 1 Ps.kwIn _ HW6.out.base.ps).mono ?_
          rw [hD]
          cases D with
          | bad er q1 =>
            rintro e w7 ⟨rfl, hP4, hC4⟩
            have HR := Lib.hid (eachP_3 (cmd := cmd) HT.out HK.out hnb hD)
            have HBD := Lib.hid (HW6.out.base.bad hC4 hP4)
            obtain ⟨r0, r1, r2, r3, r4, r5, rf⟩ := node_cells HBD.out.rs
            clear hP4 hC4
            go_wp2_with fail
            refine bodyPost_ret (v := .tuple #[.agg (nodeC 0 (.slice none 0 0)), .bool false]) (by simp [results, Tryd.results81, go_sem, nodeC, r0, r1, r2, r3, r4, r5]) rfl ?_
            rw [HR.out]
            refine HBD.out.fin ?_
            exact (Chg.refl _ _).six _ _ _ _ _ _ _ (.inl (by simp))
          | ok u q1 =>
            rintro e w7 ⟨rfl, hP4, hC4⟩
            have HW7 := Lib.hid (HW6.out.call hC4 hP4 (by have := wantP_ok hD; omega))
            clear hP4 hC4 HW6
            obtain ⟨i0, hi, hz0, hz1, hz2⟩ := info_parts Tryd.infoWord
            go_wp2_with fail
            go_loopg [] (ts.length + 1) (fun g wr => ∃ (q : Nat) (ps : List (List Lx.Part)) (wv : Value) (xs : List Value), ts.length < q + g ∧ ps.length ≤ q ∧ WordsB w pb (some ⟨g1, 0, none⟩) c ts vs w.heap.size (w.heap.size + 1) 8 t.text q deep ps wv xs wr ∧ Hid (ps ++ Ps.wordsAt ts q = Ps.wordsAt ts q1 ∧ q + (Ps.wordsAt ts q).length = q1 + (Ps.wordsAt ts q1).length))
            case atStart => exact ⟨q1, [], _, [], by omega, Nat.zero_le _, HW7.out, Lib.hid ⟨rfl, rfl⟩⟩
            case round =>
              obtain ⟨q, ps, wv, xs, hg, hpq, hWB, hE⟩ := hrel
              have hle2 := hWB.base.ps.le
              have HB := Lib.hid hWB
              clear hWB HW7
              have IS := Lib.hid (fun (x : Bool) (hx : Ps.isT ts q 1 [] = x) => hx ▸ is_any pb _ c ts vs q deep 0 1 [] _ HB.out.base.ps)
              cases hb : Ps.isT ts q 1 [] with
              | true =>
                have hlt2 := isT_lt hb
                obtain ⟨t2, ht2⟩ : ∃ t2, ts[q]? = some t2 := ⟨_, List.getElem?_eq_getElem hlt2⟩
                have HN := Lib.hid (wordsAt_next ht2 hb)
                have IS1 := Lib.hid (IS.out _ hb)
                clear IS hb
                cases gk with
                | zero => omega
                | succ g =>
                  have HG := Lib.hid hg
                  clear hg
                  go_wp2_with fail
                  refine IS1.out.mono ?_
                  rintro e w8 ⟨rfl, n8, rfl⟩
                  have HB8 := Lib.hid (HB.out.kept0 ((Chg.refl [] wr).drewN n8))
                  generalize wr.drewN n8 = w8 at *
                  clear IS1 HB
                  go_upto_region 9 with (fail)
                  obtain ⟨g3, a4, n4, hg3, y0, y1, y2, hWI⟩ := HB8.out.base.ps.toks.cell5 q t2 ht2
                  cases hg3
                  have HWI := Lib.hid hWI
                  have q0 : (0 : Int) ≤ (q : Int) := by omega
                  have q2 : (q : Int) < (ts.length : Int) := by omega
                  have k0 := HB8.out.base.ps.c0
                  have k1 := HB8.out.base.ps.c1
                  obtain ⟨m0, m1, m2, m3, m4, m5, mf⟩ := six_cells HB8.out.nd
                  obtain ⟨av, nv, cv, rfl, hnv⟩ := HB8.out.row.shape3
                  have hf2 := HB8.out.few
                  clear hWI y0 y1 m0 m1 m2 m4 m5
                  have HNV := hnv
                  obtain rfl : nv = ps.length := hnv.out
                  have HND := Lib.hid (show w.heap.size + 1 ∉ rowBlock (.slice av ps.length cv) from fun hj => (HB8.out.new _ hj).2 rfl)
                  have k0a := fun (o : Obj) => ((Chg.refl [] w8).alloc o).cell k0 (by simp)
                  have k1a := fun (o : Obj) => ((Chg.refl [] w8).alloc o).cell k1 (by simp)
                  have m3a := fun (o : Obj) => ((Chg.refl [] w8).alloc o).cell m3 (by simp)
                  go_cut [] from 52 to 76 (fun wx => ∃ v', WordsB w pb (some ⟨g1, 0, none⟩) c ts vs w.heap.size (w.heap.size + 1) 8 t.text q deep (ps ++ [t2.parts]) v' (xs ++ [.slice a4 n4 n4]) wx)
                  case first =>
                    go_region_law ((refine step_append_row (by rfl) _ _ 26 (by rfl) 49 i0 _ 1 24 Tryd.underlying26 hi hz0 hz1 hz2 (by rfl) (by decide) _ ps.length xs (by rfl) (HB8.out.row.kept0 ((Chg.refl [] _).drew.alloc _)) _ 1 1 [.slice a4 n4 n4] (by rfl) (by rfl) (srcNew _ _ _ _) (by simp [Value.oneCell']) (by unfold maxLen; omega) (by omega) ?_; intro v' w10 r10 q10 g10; obtain ⟨av', cv', rfl, _⟩ := r10.shape; have hx10 := (((Chg.refl (rowBlock (.slice av ps.length cv)) w8).drew.alloc _).trans q10 (fun x hx => .inl hx)).obj HB8.out.nd HND.out; have yf := free_of_obj hx10 3; have ym := cell_of_obj hx10 (j := 3) rfl; have FIN := Lib.hid (And.intro r10 (And.intro q10 g10)); clear r10 q10 g10 hx10))
                    all_goals
                      go_wp2
                      go_meet
                      first
                        | exact ⟨_, HB8.out.add HWI.out ((Chg.refl [] _).drew.alloc _) FIN.out.1 FIN.out.2.1 (fun x hx => (FIN.out.2.2 x hx).imp id (fun h => by simp at h; omega)) (by omega)⟩
                        | exact ⟨_, (HB8.out.add HWI.out ((Chg.refl [] _).drew.alloc _) FIN.out.1 FIN.out.2.1 (fun x hx => (FIN.out.2.2 x hx).imp id (fun h => by simp at h; omega)) (by omega)).kept0 (Chg.refl [] _).drew⟩
                  case rest =>
                    obtain ⟨v', hW9⟩ := hcut
                    have HW9 := Lib.hid hW9
                    clear hW9 k0 k1 k0a k1a m3 m3a mf HB8
                    have k1 := HW9.out.base.ps.c1
                    have kf := HW9.out.base.ps.free 1
                    have HPQ := Lib.hid hpq
                    go_wp2
                    go_roundg g
                    case measure => omega
                    case rel => exact ⟨q + 1, ps ++ [t2.parts], v', _, by have := HG.out; omega, by have := HPQ.out; simp; omega, HW9.out.setAt _ (by go_num) (by omega), Lib.hid ⟨by rw [← hE.out.1, HN.out]; simp, by rw [← hE.out.2, HN.out]; simp; omega⟩⟩
              | false =>
                have hH := wordsAt_here hb
                have IS1 := Lib.hid (IS.out _ hb)
                obtain ⟨hps, hqq⟩ : ps = Ps.wordsAt ts q1 ∧ q = q1 + (Ps.wordsAt ts q1).length := by
                  have h1 := hE.out
                  rw [hH] at h1
                  exact ⟨by simpa using h1.1, by simpa using h1.2⟩
                subst hps
                have HQQ := Lib.hid hqq
                clear IS hb hE hg hH hqq
                go_wp2_with fail
                refine IS1.out.mono ?_
                rintro e w8 ⟨rfl, n8, rfl⟩
                have HB8 := Lib.hid (HB.out.kept0 ((Chg.refl [] wr).drewN n8))
                generalize wr.drewN n8 = w8 at *
                clear IS1 HB
                obtain ⟨E, hE⟩ : ∃ E, Ps.wantP ts q 3 [] = E := ⟨_, rfl⟩
                have HE := Lib.hid (show Ps.wantP ts (q1 + (Ps.wordsAt ts q1).length) 3 [] = E from by rw [← HQQ.out]; exact hE)
                go_wp2_with fail
                refine (want_any pb _ c ts vs q deep 3 [] _ HB8.out.base.ps).mono ?_
                rw [hE]
                cases E with
                | bad er q2 =>
                  rintro e w9 ⟨rfl, hP4, hC4⟩
                  have HR := Lib.hid (eachP_4 (cmd := cmd) HT.out HK.out hnb hD HE.out)
                  have HBD := Lib.hid (HB8.out.base.bad hC4 hP4)
                  obtain ⟨r0, r1, r2, r3, r4, r5, rf⟩ := node_cells HBD.out.rs
                  clear hP4 hC4
                  go_wp2_with fail
                  refine bodyPost_ret (v := .tuple #[.agg (nodeC 0 (.slice none 0 0)), .bool false]) (by simp [results, Tryd.results81, go_sem, nodeC, r0, r1, r2, r3, r4, r5]) rfl ?_
                  rw [HR.out]
                  refine HBD.out.fin ?_
                  exact (Chg.refl _ _).six _ _ _ _ _ _ _ (.inl (by simp))
                | ok u2 q2 =>
                  rintro e w9 ⟨rfl, hP4, hC4⟩
                  have hq2 := wantP_ok hE
                  have HB9 := Lib.hid (HB8.out.call hC4 hP4 (by omega))
                  clear hP4 hC4 HB8
                  go_wp2_with fail
                  refine (ends_any pb _ c ts vs q2 deep _ HB9.out.base.ps).mono ?_
                  rintro e w10 ⟨rfl, hP5, hC5⟩
                  have HB10 := Lib.hid (HB9.out.call hC5 hP5 (endsP_le HB9.out.base.ps.le).1)
                  clear hP5 hC5 HB9
                  obtain ⟨G, hG⟩ : ∃ G, Ps.bodyP ts cmd (Ps.endsP ts q2) = G := ⟨_, rfl⟩
                  go_wp2_with fail
                  refine Calls.mono (body_any pb _ c ts vs (Ps.endsP ts q2) deep cmd HLI.out _ HB10.out.base.ps) ?_
                  intro e w11 hRD
                  rw [hG] at hRD
                  obtain ⟨cs, b, ⟨k1, s1, ka, wa, sa, ra, kn, kc, wn, wc, sn, sc, rn, rc, rfl⟩, rfl, hC6, hGot⟩ := hRD.got
                  clear hRD
                  obtain ⟨av, nv, cv, rfl, hnv⟩ := HB10.out.row.shape3
                  obtain rfl : nv = (Ps.wordsAt ts q1).length := hnv.out
                  obtain ⟨_, _, hv, hac, hcm⟩ := HB10.out.row.shape
                  cases hv
                  have HCL := Lib.hid (fun (W : World) => clip_words av (Ps.wordsAt ts q1).length cv hac hcm W)
                  clear hac hcm
                  have HLO := Lib.hid (show w.heap.size + 1 < w11.heap.size from Nat.lt_of_lt_of_le (lt_of_obj HB10.out.nd) hC6.size)
                  have HGot := Lib.hid hGot
                  have HC6 := Lib.hid hC6
                  have hal : Chg [] w11 (w11.alloc (.cells #[.int .i64 k1, .slice ka kn kc, .string (Lx.strB s1), .slice wa wn wc, .slice sa sn sc, .slice ra rn rc] 30)) := (Chg.refl [] w11).alloc _
                  have HAL := Lib.hid hal
                  have HC11 := Lib.hid (hC6.trans hal (by simp))
                  have hot := obj_alloc_new w11 (.cells #[.int .i64 k1, .slice ka kn kc, .string (Lx.strB s1), .slice wa wn wc, .slice sa sn sc, .slice ra rn rc] 30)
                  have HND := Lib.hid (HC11.out.obj HB10.out.nd (by have := HB10.out.base.old.1; simp; omega))
                  have HPS : ∃ q3 er, PS w11 pb (some ⟨g1, 0, none⟩) c ts vs q3 deep er := by
                    cases G with
                    | bad er q3 => exact ⟨_, _, hGot.2⟩
                    | ok n q3 => exact ⟨_, _, hGot.2.2⟩
                  clear hC6 hal hGot HPS
                  go_upto_region 15 with (fail)
                  generalize w11.alloc (.cells #[.int .i64 k1, .slice ka kn kc, .string (Lx.strB s1), .slice wa wn wc, .slice sa sn sc, .slice ra rn rc] 30) = w12 at *
                  obtain ⟨b0, b1, b2, b3, b4, b5, bf⟩ := six_cells hot
                  obtain ⟨n0, n1, n2, n3, n4, n5, nf⟩ := six_cells HND.out
                  obtain ⟨n0a, n1a, n2a, n3a, n4a, n5a, nfa⟩ := six_cells_alloc HND.out
                  have hob2 := obj_alloc_old (obj_setCell HND.out 3 (.slice av (Ps.wordsAt ts q1).length (Ps.wordsAt ts q1).length)) (.cells #[.int .i64 k1, .slice ka kn kc, .string (Lx.strB s1), .slice wa wn wc, .slice sa sn sc, .slice ra rn rc] 30)
                  have HOB := Lib.hid hob2
                  have n1c := cell_of_obj hob2 (j := 1) rfl
                  have nfc := free_of_obj hob2
                  have HKB := Lib.hid (show ((w12.setCell ⟨w.heap.size + 1, 3, none⟩ (.slice av (Ps.wordsAt ts q1).length (Ps.wordsAt ts q1).length)).alloc (.cells #[.int .i64 k1, .slice ka kn kc, .string (Lx.strB s1), .slice wa wn wc, .slice sa sn sc, .slice ra rn rc] 30)).heap[w12.heap.size]? = some (.cells #[.int .i64 k1, .slice ka kn kc, .string (Lx.strB s1), .slice wa wn wc, .slice sa sn sc, .slice ra rn rc] 30 (0, 0)) from by
                    have := obj_alloc_new (w12.setCell ⟨w.heap.size + 1, 3, none⟩ (.slice av (Ps.wordsAt ts q1).length (Ps.wordsAt ts q1).length)) (.cells #[.int .i64 k1, .slice ka kn kc, .string (Lx.strB s1), .slice wa wn wc, .slice sa sn sc, .slice ra rn rc] 30)
                    rwa [show (w12.setCell ⟨w.heap.size + 1, 3, none⟩ (.slice av (Ps.wordsAt ts q1).length (Ps.wordsAt ts q1).length)).heap.size = w12.heap.size from by simp [World.setCell]] at this)
                  have b3c := ((Chg.refl [w.heap.size + 1] w12).setCell ⟨w.heap.size + 1, 3, none⟩ (.slice av (Ps.wordsAt ts q1).length (Ps.wordsAt ts q1).length) (.inl (by simp))).cell b3 (by have := HLO.out; simp; omega)
                  clear hob2 bf hot
                  go_cut [] (fun wx => Chg [w.heap.size + 1] w12 wx ∧ wx.heap[w.heap.size + 1]? = some (.cells #[.int .i64 8, .slice (some ⟨w12.heap.size, 0, none⟩) 1 1, .string (Lx.strB t.text), (.slice av (Ps.wordsAt ts q1).length (Ps.wordsAt ts q1).length), .slice none 0 0, .slice none 0 0] 30 (0, 0)) ∧ wx.heap[w12.heap.size]? = some (.cells #[.int .i64 k1, .slice ka kn kc, .string (Lx.strB s1), .slice wa wn wc, .slice sa sn sc, .slice ra rn rc] 30 (0, 0)))
                  case first =>
                    go_region_law ((go_simp; refine (HCL.out _).mono ?_; rintro e w13 ⟨rfl, rfl⟩))
                    all_goals
                      go_wp2
                      go_meet
                      first
                        | exact ⟨(((Chg.refl _ _).alloc _).setCell _ _ (.inl (by simp))).setCell _ _ (.inl (by simp)) |>.drew, obj_setCell (obj_setCell (obj_alloc_old HND.out _) 3 _) 1 _, obj_setCell_other (obj_setCell_other (obj_alloc_new _ _) (by have := lt_of_obj HND.out; simp; omega) _) (by have := lt_of_obj HND.out; simp; omega) _⟩
                        | exact ⟨(((Chg.refl _ _).setCell _ _ (.inl (by simp))).alloc _).setCell _ _ (.inl (by simp)) |>.drew, obj_setCell HOB.out 1 _, obj_setCell_other HKB.out (by have := lt_of_obj HND.out; simp; omega) _⟩
                  case rest =>
                    obtain ⟨hC12, hN12, hK12⟩ := hcut
                    have HC12 := Lib.hid hC12
                    have HK12 := Lib.hid hK12
                    clear b0 b1 b2 b3 b4 b5 b3c n1c nfc HOB HKB n0 n1 n2 n3 n4 n5 nf n0a n1a n2a n3a n4a n5a nfa hC12 hK12
                    obtain ⟨n0, n1, n2, n3, n4, n5, nf⟩ := six_cells hN12
                    clear hN12
                    cases G with
                    | bad er q3 =>
                      obtain ⟨hb, hP6⟩ := HGot.out
                      subst hb
                      have HR := Lib.hid (eachP_5 (cmd := cmd) HT.out HK.out hnb hD HE.out hG)
                      have HBD := Lib.hid ((HB10.out.base.bad HC6.out hP6).kept0 HAL.out)
                      clear hP6
                      obtain ⟨r0, r1, r2, r3, r4, r5, rf⟩ := node_cells (HC12.out.obj HBD.out.rs (by simp))
                      go_wp2_with fail
                      refine bodyPost_ret (v := .tuple #[.agg #[.int .i64 8, .slice (some ⟨w12.heap.size, 0, none⟩) 1 1, .string (Lx.strB t.text), (.slice av (Ps.wordsAt ts q1).length (Ps.wordsAt ts q1).length), .slice none 0 0, .slice none 0 0], .bool false]) (by simp [results, Tryd.results81, go_sem, r0, r1, r2, r3, r4, r5]) rfl ?_
                      rw [HR.out]
                      refine HBD.out.fin6F ⟨8, _, _, _, none, none, _, _, _, _, 0, 0, 0, 0, rfl⟩ (F := [w.heap.size, w.heap.size + 1]) ?_ (fun j hj => by simp at hj; omega)
                      exact (HC12.out.mono (by simp)).six _ _ _ _ _ _ _ (.inl (by simp))
                    | ok x q3 =>
                      obtain ⟨hb, hN, hP6⟩ := HGot.out
                      subst hb
                      have HR := Lib.hid (eachP_6 HT.out HK.out hnb hD HE.out hG)
                      have hq3 : Ps.endsP ts q2 ≤ q3 := bodyP_mono hmv hG
                      have HBW := Lib.hid ((HB10.out.call HC6.out hP6 hq3).kept0 HAL.out)
                      have HX := Lib.hid (Sn.up (hold0 hN HAL.out) (Nat.le_refl _) HAL.out.size)
                      have HLO2 := Lib.hid (show w.heap.size + 1 < w10.heap.size from lt_of_obj HB10.out.nd)
                      have HLW := Lib.hid (show ∀ j ∈ rowBlock (.slice av (Ps.wordsAt ts q1).length cv), j < w10.heap.size from fun j hj => Row.block_lt HB10.out.row j hj)
                      clear hN hq3 hP6
                      obtain ⟨r0, r1, r2, r3, r4, r5, rf⟩ := node_cells (HC12.out.obj HBW.out.base.rs (by simp))
                      go_wp2_with fail
                      refine bodyPost_ret (v := .tuple #[.agg #[.int .i64 8, .slice (some ⟨w12.heap.size, 0, none⟩) 1 1, .string (Lx.strB t.text), (.slice av (Ps.wordsAt ts q1).length (Ps.wordsAt ts q1).length), .slice none 0 0, .slice none 0 0], .bool true]) (by simp [results, Tryd.results81, go_sem, r0, r1, r2, r3, r4, r5]) rfl ?_
                      rw [HR.out]
                      refine HBW.out.fin rfl HLO2.out HLW.out HX.out (kb := w12.heap.size) ?_ ?_ ?_
                      · exact (HC12.out.mono (by simp)).six _ _ _ _ _ _ _ (.inl (by simp))
                      · have := HBW.out.base.chg.size; omega
                      · have h1 : w12.heap.size ≠ w.heap.size := by have := lt_of_obj HBW.out.nd; omega
                        exact obj_setCell_other (obj_setCell_other (obj_setCell_other (obj_setCell_other (obj_setCell_other (obj_setCell_other HK12.out h1 _) h1 _) h1 _) h1 _) h1 _) h1 _

end Go.Proofs.YtfgbbmnmblchiaaDoor
