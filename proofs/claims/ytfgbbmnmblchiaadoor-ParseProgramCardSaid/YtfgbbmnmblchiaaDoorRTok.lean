/-
  The document's Tokens: walked.
-/
import Derived.Test.YtfgbbmnmblchiaaDoorRTokP
namespace Go.Proofs.YtfgbbmnmblchiaaDoor
open Go.RowKit
set_option linter.unusedVariables false

theorem note_stop : ∀ (t : List UInt8) (k : Nat), (∀ j, j < k → t.getD j 0 ≠ 10) → k ≤ t.length → (k = t.length ∨ t.getD k 0 = 10) → Lx.noteLen t = k := by
  intro t k ha hk hs
  unfold Lx.noteLen
  refine takeWhile_all (fun j hj => ?_) hk ?_
  · have := ha j hj
    show (!(t.getD j 0 == 10)) = true
    rw [beq_eq_false_iff_ne.2 this]
    rfl
  · rcases hs with h | h
    · exact .inl h
    · exact .inr (by rw [h]; rfl)

set_option maxHeartbeats 8000000 in
set_option maxRecDepth 100000 in
theorem rtokens_any (l : List UInt8) (w : World) (hl9 : l.length ≤ 9223372036854775807) :
    Calls Tryd.prog 15 #[.string (Lx.strB l)] w (GotPost w (Lx.tokens l)) := by
  have hsz := Lx.strB_size l
  obtain ⟨i0, hi, hz0, hz1, hz2⟩ := info_parts Tryd.infoTokR
  obtain ⟨T, hTT⟩ : ∃ T, Lx.tokens l = T := ⟨_, rfl⟩
  rw [hTT]
  have HT := Lib.hid hTT
  clear hTT
  have HC0 := Lib.hid ((Chg.refl [] w).alloc (.cells #[.slice none 0 0, .int .i64 0, .int .i64 0] 68))
  have hg0 : GotAt (w.alloc (.cells #[.slice none 0 0, .int .i64 0, .int .i64 0] 68)) w.heap.size (.slice none 0 0) 0 0 := obj_alloc_new w _
  have HG0 := Lib.hid hg0
  clear hg0
  by_cases hl : 2048 < l.length
  · have hb := Lib.hid (tokens_long hl)
    have hld : decide ((2048 : Int) < (l.length : Int)) = true := decide_eq_true (by omega)
    go_enter Tryd.func15, Tryd.ntmps15
    go_wp2_with fail
    refine bodyPost_ret (v := .agg #[.slice none 0 0, .int .i64 0, .int .i64 2]) (by simp [results, Tryd.results15, go_sem]) rfl ?_
    rw [← HT.out, hb.out]
    exact ⟨none, 0, 0, [], rfl, ToksR.nil _ _, (Chg.refl [] w).alloc _⟩
  · have hld : decide ((2048 : Int) < (l.length : Int)) = false := decide_eq_false (by omega)
    obtain ⟨B, hB⟩ : ∃ B, Lx.badP (l.length + 1) l 0 = B := ⟨_, rfl⟩
    have hbd := fun (W : World) => rwrong_any l W (by omega)
    rw [hB] at hbd
    have HBD := Lib.hid hbd
    have HB2 := Lib.hid hB
    have HLL0 := Lib.hid hl
    clear hB hbd
    cases B with
    | some i =>
      have hb := Lib.hid (tokens_bad HLL0.out HB2.out)
      have i0 : (0 : Int) ≤ (i : Int) := by omega
      have id0 : decide ((0 : Int) ≤ (i : Int)) = true := decide_eq_true i0
      clear hl
      go_enter Tryd.func15, Tryd.ntmps15
      go_wp2_with fail
      refine (HBD.out _).mono ?_
      rintro e w1 ⟨rfl, h1⟩
      have H1 := Lib.hid (HC0.out.then0 h1)
      have hg1 : GotAt w1 w.heap.size (.slice none 0 0) 0 0 := h1.obj HG0.out (by simp)
      have x0 := cell_of_obj hg1 (j := 0) rfl
      have x1 := cell_of_obj hg1 (j := 1) rfl
      have x2 := cell_of_obj hg1 (j := 2) rfl
      have f0 := free_of_obj hg1 0
      have f1 := free_of_obj hg1 1
      have f2 := free_of_obj hg1 2
      have HG1 := Lib.hid hg1
      clear h1 hg1
      simp only [placeI]
      go_wp2_with fail
      refine bodyPost_ret (v := .agg #[.slice none 0 0, .int .i64 (i : Int), .int .i64 10]) (by simp [results, Tryd.results15, go_sem, HG1.out.r0, HG1.out.r1, HG1.out.r2]) rfl ?_
      rw [← HT.out, hb.out]
      exact got_none H1.out (Nat.le_refl _) i 10 _ _ _
    | none =>
      obtain ⟨R, hR⟩ : ∃ R, Lx.tokP (l.length + 1) l 0 [] = R := ⟨_, rfl⟩
      have HE2 := Lib.hid (show T = tokRes R from by rw [← HT.out, tokens_good HLL0.out HB2.out, hR])
      have HR := Lib.hid hR
      have HL := Lib.hid hl
      clear HT HLL0 hR hl
      go_enter Tryd.func15, Tryd.ntmps15
      go_wp2_with fail
      refine (HBD.out _).mono ?_
      rintro e w1 ⟨rfl, h1⟩
      have H1 := Lib.hid h1
      clear h1 HBD HB2
      simp only [placeI]
      go_wp2_with fail
      have HI0 := Lib.hid (show TokRAt w w.heap.size w1.heap.size l 0 (.slice none 0 0) [] [] (w1.alloc (.cells #[.slice none 0 0, .int .i64 0, .int .i64 0] 68)) from
        { res := obj_alloc_old (H1.out.obj HG0.out (by simp)) _, got := obj_alloc_new w1 _, toks := ToksR.nil _ _, ne := by have := lt_of_obj (H1.out.obj HG0.out (by simp)); omega, out := ⟨by simp [rowBlock], by simp [rowBlock]⟩, outs := by simp, new := ⟨Nat.le_refl _, by have := H1.out.size; simp at this; omega⟩, news := by simp [rowBlock], chg := (HC0.out.then0 H1.out).alloc _, few := by simp, le := by omega })
      generalize w1.heap.size = gb at *
      generalize w.heap.size = rb at *
      go_loopg [5, 6, 7] (l.length + 1) (fun g c5 c6 c7 wr => ∃ (p : Nat) (v : Value) (ts : List Lx.Tok) (vs : List Value), l.length < p + g ∧ c5 = .int .i64 p ∧ TokRAt w rb gb l p v ts vs wr ∧ Hid (R = Lx.tokP g (l.drop p) p ts))
      case atStart => exact ⟨0, _, [], [], by omega, rfl, HI0.out, Lib.hid HR.out.symm⟩
      case round =>
        obtain ⟨p, v, ts, vs, hg, rfl, hI, hr⟩ := hrel
        clear HI0 HR H1
        have hle := hI.le
        have HI := Lib.hid hI
        obtain ⟨a0, c0, rfl, hac, hcm⟩ := hI.toks.row.shape
        have z0 := cell_of_obj hI.got (j := 0) rfl
        have zf := free_of_obj hI.got 0
        clear hI hac hcm
        have hl8 : l.length ≤ 2048 := by have := HL.out; omega
        have p0 : (0 : Int) ≤ (p : Int) := by omega
        have p1 : (p : Int) ≤ 2048 := by omega
        have p2 : (p : Int) ≤ (l.length : Int) := by omega
        have HL8 := Lib.hid hl8
        clear hl8
        by_cases hp : p < l.length
        · have hpd : decide (p < l.length) = true := decide_eq_true hp
          cases gk with
          | zero => omega
          | succ g =>
            obtain ⟨b, t2, hbt⟩ : ∃ b t2, l.drop p = b :: t2 := ⟨_, _, drop_at l p hp⟩
            obtain ⟨x, hbx⟩ : ∃ x, b.toNat = x := ⟨_, rfl⟩
            have hx : ∀ h, ((Lx.strB l)[p]'h).toNat = x := fun h => by
              rw [Lx.strB_get]
              have := drop_at l p hp
              rw [hbt] at this
              exact (congrArg UInt8.toNat (List.cons.inj this).1.symm).trans hbx
            have p3 : (p : Int) < (l.length : Int) := by omega
            have hb8 : ∀ y : UInt8, b = y ↔ x = y.toNat := fun y => ⟨fun e => by rw [← hbx, e], fun e => UInt8.toNat_inj.1 (hbx.trans e)⟩
            have hsg := fun (W : World) => rsign_any l p hp (by have := HL8.out; omega) W
            rw [hbt] at hsg
            obtain ⟨sg, hs⟩ : ∃ sg, Lx.signOf (b :: t2) = sg := ⟨_, rfl⟩
            rw [hs] at hsg
            rw [hbt] at hr
            have HSG := Lib.hid hsg
            have HS := Lib.hid hs
            have HBT := Lib.hid hbt
            have HB8 := Lib.hid hb8
            have HG := Lib.hid hg
            have HLL := Lib.hid (show l.length = p + (t2.length + 1) from by
              have := congrArg List.length hbt
              rw [List.length_drop, List.length_cons] at this
              omega)
            have HDT := Lib.hid (show l.drop (p + 1) = t2 from by rw [← List.drop_drop, hbt]; rfl)
            clear hbt hb8 hbx hg hsg hs
            go_wp2_with fail
            refine (HSG.out _).mono ?_
            rintro e w2 ⟨rfl, h2⟩
            have HI2 := Lib.hid (HI.out.kept0 h2)
            have y0 := cell_of_obj HI2.out.got (j := 0) rfl
            have yf := free_of_obj HI2.out.got 0
            clear h2 z0 zf HI HSG
            by_cases hA : x = 32 ∨ x = 9
            · have hb := Lib.hid (show R = Lx.tokP g (l.drop (p + 1)) (p + 1) ts from by
                rw [hr.out, tokP_cons, if_pos (hA.imp (HB8.out 32).2 (HB8.out 9).2), HDT.out])
              clear hr
              rcases hA with hA | hA
              all_goals
                subst hA
                go_wp2
                go_roundg g
                case measure => omega
                case rel => exact ⟨p + 1, _, ts, vs, by have := HG.out; omega, by go_num, HI2.out.moved (p + 1) (by omega) (by omega), hb⟩
            · have nA : ¬ (b = 32 ∨ b = 9) := fun e => hA (e.imp (HB8.out 32).1 (HB8.out 9).1)
              have e32 : ((x : Int) == 32) = false := by rw [beq_eq_false_iff_ne]; omega
              have e9 : ((x : Int) == 9) = false := by rw [beq_eq_false_iff_ne]; omega
              have NA := Lib.hid nA
              clear hA nA
              by_cases hB : x = 35
              · have hr3 := hr.out
                rw [tokP_cons, if_neg NA.out, if_pos ((HB8.out 35).2 hB)] at hr3
                subst hB
                have HR3 := Lib.hid hr3
                have hd35 := (HB8.out 35).2 rfl
                have HD35 := Lib.hid hd35
                have lx : (l.length : Int) ≤ 2048 := by have := HL8.out; omega
                clear hr hr3 hd35
                go_wp2_with fail
                go_loopg [5] (l.length + 1) (fun g6 c6 wx => ∃ k : Nat, l.length < k + g6 ∧ p ≤ k ∧ k ≤ l.length ∧ c6 = .int .i64 k ∧ wx = w2 ∧ Hid (∀ j, j < k - p → (b :: t2).getD j 0 ≠ 10))
                case atStart => exact ⟨p, by omega, by omega, by omega, rfl, rfl, Lib.hid (fun j hj => by omega)⟩
                case round =>
                  obtain ⟨k, hg6, hpk, hkl, rfl, rfl, ha⟩ := hrel
                  have k0 : (0 : Int) ≤ (k : Int) := by omega
                  have k1 : (k : Int) ≤ 2048 := by have := HL8.out; omega
                  have fin : (k = l.length ∨ (b :: t2).getD (k - p) 0 = 10) → R = Lx.tokP g (l.drop k) k ts ∧ p < k := fun hs => by
                    have hn := note_stop (b :: t2) (k - p) ha.out (by rw [List.length_cons]; have := HLL.out; omega) (hs.imp (fun h => by rw [List.length_cons]; have := HLL.out; omega) id)
                    have hpos := noteLen_pos b t2 HD35.out
                    refine ⟨?_, by omega⟩
                    rw [HR3.out, hn, ← HBT.out, List.drop_drop, show p + (k - p) = k from by omega]
                  have FIN := Lib.hid fin
                  clear fin
                  by_cases hlt : k < l.length
                  · have hkd : decide (k < l.length) = true := decide_eq_true hlt
                    have k2 : (k : Int) < (l.length : Int) := by omega
                    obtain ⟨y, hy0⟩ : ∃ y, (l.getD k 0).toNat = y := ⟨_, rfl⟩
                    have hy : ∀ h, ((Lx.strB l)[k]'h).toNat = y := fun h => by rw [Lx.strB_get]; exact hy0
                    have hty : (b :: t2).getD (k - p) 0 = l.getD k 0 := by rw [← HBT.out, getD_drop', show p + (k - p) = k from by omega]
                    by_cases h10 : y = 10
                    · have e1 : ((y : Int) != 10) = false := by rw [bne_eq_false_iff_eq]; omega
                      have e2 : ((y : Int) == 10) = true := by rw [beq_iff_eq]; omega
                      have hf := FIN.out (.inr (by rw [hty]; exact UInt8.toNat_inj.1 (by rw [hy0, h10]; rfl)))
                      have hb := Lib.hid hf.1
                      have HPK := Lib.hid hf.2
                      clear hf hty hy0 h10 ha hg6
                      go_wp2
                      go_roundg g
                      case measure => omega
                      case rel => exact ⟨k, _, ts, vs, by have := HG.out; have := HPK.out; omega, rfl, HI2.out.moved k hpk hkl, hb⟩
                    · have e1 : ((y : Int) != 10) = true := by rw [bne_iff_ne]; omega
                      have e2 : ((y : Int) == 10) = false := by rw [beq_eq_false_iff_ne]; omega
                      have HA2 := Lib.hid (show ∀ j, j < k + 1 - p → (b :: t2).getD j 0 ≠ 10 from fun j hj => by
                        by_cases hjk : j = k - p
                        · subst hjk
                          rw [hty]
                          rintro h
                          rw [h] at hy0
                          exact h10 hy0.symm
                        · exact ha.out j (by omega))
                      have HG6 := Lib.hid hg6
                      clear hty hy0 h10 ha hg6
                      cases gk with
                      | zero => have := HG6.out; omega
                      | succ g6 =>
                        go_wp2
                        go_roundg g6
                        case measure => omega
                        case rel => exact ⟨k + 1, by have := HG6.out; omega, by omega, by omega, by go_num, rfl, HA2⟩
                  · have hkd : decide (k < l.length) = false := decide_eq_false hlt
                    have hf := FIN.out (.inl (by omega))
                    have hb := Lib.hid hf.1
                    have HPK := Lib.hid hf.2
                    clear hf ha hg6
                    go_wp2
                    go_roundg g
                    case measure => omega
                    case rel => exact ⟨k, _, ts, vs, by have := HG.out; have := HPK.out; omega, rfl, HI2.out.moved k hpk hkl, hb⟩
              · have e35 : ((x : Int) == 35) = false := by rw [beq_eq_false_iff_ne]; omega
                have NB := Lib.hid (show ¬ b = 35 from fun e => hB ((HB8.out 35).1 e))
                clear hB
                by_cases hC : x = 59 ∨ x = 10
                · have hb := Lib.hid (show R = Lx.tokP g (l.drop (p + 1)) (p + 1) (ts ++ [⟨3, [59], [], p⟩]) from by
                    rw [hr.out, tokP_cons, if_neg NA.out, if_neg NB.out, if_pos (hC.imp (HB8.out 59).2 (HB8.out 10).2), HDT.out])
                  have hfw := HI2.out.few
                  have tf : ts.length ≤ 2048 := by omega
                  have HGB := Lib.hid HI2.out.out.2
                  have hgl := lt_of_obj HI2.out.got
                  clear hr hfw
                  rcases hC with hC | hC
                  all_goals
                    subst hC
                    go_wp2_with (at_builtin; refine wpList_append_row _ rfl _ _ 66 rfl 98 i0 _ 4 56 Tryd.underlying66 hi hz0 hz1 hz2 rfl (by decide) _ ts.length (tcells ts vs) rfl (HI2.out.toks.row.kept0 ((Chg.refl [] _).alloc _)) _ 1 1 (tokCells 3 [59] (.slice none 0 0) p) rfl (by simp [tokCells]) (srcNew _ _ _ _) (one_tok _ _ _ _ _ _) (by unfold maxLen; omega) (by omega) ?_)
                    intro v' w5 r5 q5 g5
                    obtain ⟨a', cap, rfl, _⟩ := r5.shape
                    have hob := q5.obj (((Chg.refl [] w2).alloc _).obj HI2.out.got (by simp)) HGB.out
                    have k0 := cell_of_obj hob (j := 0) rfl
                    have kf := free_of_obj hob 0
                    have FIN := Lib.hid (HI2.out.added ((Chg.refl [] _).alloc _) q5 3 [59] r5 (fun x hx => (g5 x hx).imp id (fun h => by simpa using h)) (PartsR.nil _ _) ⟨none, 0, 0, rfl⟩ (by simp [rowBlock]) (p + 1) (by omega) (by omega))
                    clear r5 q5 g5 hob
                    go_wp2
                    go_roundg g
                    case measure => omega
                    case rel => exact ⟨p + 1, _, _, _, by have := HG.out; omega, by go_num, FIN.out, hb⟩
                · have e59 : ((x : Int) == 59) = false := by rw [beq_eq_false_iff_ne]; omega
                  have e10 : ((x : Int) == 10) = false := by rw [beq_eq_false_iff_ne]; omega
                  have NC := Lib.hid (show ¬ (b = 59 ∨ b = 10) from fun e => hC (e.imp (HB8.out 59).1 (HB8.out 10).1))
                  clear hC
                  by_cases hD : sg = []
                  · have NE := Lib.hid hD
                    subst hD
                    have hst := Lx.strB_toList []
                    by_cases hE : x = 38
                    · have hb := Lib.hid (show T = (10, p, []) from by
                        rw [HE2.out, hr.out, tokP_cons, if_neg NA.out, if_neg NB.out, if_neg NC.out, HS.out, if_neg (by simp), if_pos ((HB8.out 38).2 hE)]
                        rfl)
                      subst hE
                      have u0 := cell_of_obj HI2.out.res (j := 0) rfl
                      have u1 := cell_of_obj HI2.out.res (j := 1) rfl
                      have u2 := cell_of_obj HI2.out.res (j := 2) rfl
                      have v0 := free_of_obj HI2.out.res 0
                      have v1 := free_of_obj HI2.out.res 1
                      have v2 := free_of_obj HI2.out.res 2
                      clear hr HE2
                      go_wp2_with fail
                      refine bodyPost_ret (v := .agg #[.slice none 0 0, .int .i64 (p : Int), .int .i64 10]) (by simp [results, Tryd.results15, go_sem, HI2.out.res.r0, HI2.out.res.r1, HI2.out.res.r2]) rfl ?_
                      rw [hb.out]
                      exact got_none HI2.out.chg HI2.out.new.1 p 10 _ _ _
                    · have e38 : ((x : Int) == 38) = false := by rw [beq_eq_false_iff_ne]; omega
                      have N38 := Lib.hid (show ¬ b = 38 from fun e => hE ((HB8.out 38).1 e))
                      clear hE
                      have hfw := HI2.out.few
                      have tf : ts.length ≤ 2048 := by omega
                      have hWA := rword_any l p w2 (by omega) HL8.out
                      obtain ⟨V, hV⟩ : ∃ V, Lx.wordP ((b :: t2).length + 1) (b :: t2) p [] = V := ⟨_, rfl⟩
                      have hfu := wordP_fuel (b :: t2).length (l.length + 1) ((b :: t2).length + 1) (b :: t2) p [] (Nat.le_refl _) (by rw [List.length_cons]; have := HLL.out; omega) (by omega)
                      rw [HBT.out, hfu, hV] at hWA
                      have HWA := Lib.hid hWA
                      have HTW := Lib.hid (tokP_word g b t2 p ts NA.out NB.out NC.out HS.out N38.out)
                      have HV := Lib.hid hV
                      clear hV hWA hfu hfw
                      cases V with
                      | bad i =>
                        have hb := Lib.hid (show T = (10, i, []) from by
                          rw [HE2.out, hr.out, HTW.out.1 _ HV.out]
                          rfl)
                        clear hr HE2 HTW
                        go_wp2_with fail
                        refine HWA.out.mono ?_
                        rintro e w3 ⟨rfl, hc3⟩
                        have hC3 : Chg [] w2 w3 := hc3
                        have HC3 := Lib.hid (HI2.out.chg.then0 hC3)
                        have hres := hC3.obj HI2.out.res (by simp)
                        have y0' := fun (o : Obj) => cell_of_obj (obj_alloc_old hres o) (j := 0) rfl
                        have g0 := fun (o : Obj) => free_of_obj (obj_alloc_old hres o) 0
                        have y1 := fun (x : Value) (o : Obj) => cell_of_obj (obj_alloc_old (obj_setCell hres 0 x) o) (j := 1) rfl
                        have g1 := fun (x : Value) (o : Obj) => free_of_obj (obj_alloc_old (obj_setCell hres 0 x) o) 1
                        have y2 := fun (x y : Value) (o : Obj) => cell_of_obj (obj_alloc_old (obj_setCell (obj_setCell hres 0 x) 1 y) o) (j := 2) rfl
                        have g2 := fun (x y : Value) (o : Obj) => free_of_obj (obj_alloc_old (obj_setCell (obj_setCell hres 0 x) 1 y) o) 2
                        have R0 := Lib.hid (fun (x y z : Value) (o : Obj) => cell_of_obj (obj_alloc_old (obj_setCell (obj_setCell (obj_setCell hres 0 x) 1 y) 2 z) o) (j := 0) (v := x) rfl)
                        have R1 := Lib.hid (fun (x y z : Value) (o : Obj) => cell_of_obj (obj_alloc_old (obj_setCell (obj_setCell (obj_setCell hres 0 x) 1 y) 2 z) o) (j := 1) (v := y) rfl)
                        have R2 := Lib.hid (fun (x y z : Value) (o : Obj) => cell_of_obj (obj_alloc_old (obj_setCell (obj_setCell (obj_setCell hres 0 x) 1 y) 2 z) o) (j := 2) (v := z) rfl)
                        have hlt3 : rb < w3.heap.size := lt_of_obj hres
                        have HNW := Lib.hid HI2.out.new.1
                        clear hc3 hC3 hres y0 yf
                        go_wp2_with fail
                        refine bodyPost_ret (v := .agg #[.slice none 0 0, .int .i64 (i : Int), .int .i64 10]) (by simp [results, Tryd.results15, go_sem, R0.out, R1.out, R2.out]) rfl ?_
                        rw [hb.out]
                        exact got_none2 HC3.out HNW.out i 10 _ _ _ _
                      | ok pr =>
                        obtain ⟨ps, p5⟩ := pr
                        have hgt := wordP_gt _ _ _ _ _ _ _ (sign_end b t2 HS.out N38.out NA.out NC.out) HV.out
                        have HGT := Lib.hid hgt
                        have hb2 := Lib.hid (show R = Lx.tokP g (l.drop p5) p5 (ts ++ [⟨1, (l.drop p).take (p5 - p), ps, p⟩]) from by
                          rw [hr.out, HTW.out.2 _ _ HV.out, ← HBT.out, List.drop_drop, show p + (p5 - p) = p5 from by omega])
                        clear hr hgt HTW
                        go_wp2_with fail
                        refine HWA.out.mono ?_
                        rintro e w3 ⟨a5, n5, c5, rfl, hp5, hc5, hb5⟩
                        have hC3 : Chg [] w2 w3 := hc5
                        have HC3 := Lib.hid hC3
                        have HP5 := Lib.hid hp5
                        have HB5 := Lib.hid (show ∀ x ∈ rowBlock (.slice a5 n5 c5), w2.heap.size ≤ x from fun x hx => by
                          rcases hb5 x hx with h | h
                          · simp [rowBlock] at h
                          · exact h)
                        have HGB := Lib.hid HI2.out.out.2
                        have hgot := hC3.obj HI2.out.got (by simp)
                        have y0' := fun (o : Obj) => cell_of_obj (obj_alloc_old hgot o) (j := 0) rfl
                        have hgl := lt_of_obj hgot
                        have hxq := Lib.hid (show (Lx.strB l).extract p p5 = Lx.strB ((l.drop p).take (p5 - p)) from by rw [Lx.strB_extract])
                        have HW5 := Lib.hid (show p5 ≤ l.length from by
                          have := wordP_le _ _ _ _ _ _ HV.out
                          have := HLL.out
                          rw [List.length_cons] at *
                          omega)
                        have b5 : (p5 : Int) ≤ (l.length : Int) := by have := HW5.out; omega
                        have b6 : (p : Int) ≤ (p5 : Int) := by have := HGT.out; omega
                        have b7 : (0 : Int) ≤ (p5 : Int) := by omega
                        have hvl := Row.block_lt HI2.out.toks.row
                        have hwv : w3.heap.size ∉ rowBlock (.slice a0 ts.length c0) := fun h => by have := hvl _ h; have := hC3.size; omega
                        have HWV := Lib.hid hwv
                        have how := obj_alloc_new w3 (.cells #[.slice a5 n5 c5, .int .i64 (p5 : Int), .int .i64 0] 100)
                        have HOW := Lib.hid how
                        have hgo4 := obj_alloc_old hgot (.cells #[.slice a5 n5 c5, .int .i64 (p5 : Int), .int .i64 0] 100)
                        have HGO4 := Lib.hid hgo4
                        have HC4 := Lib.hid (show Chg [] w2 (w3.alloc (.cells #[.slice a5 n5 c5, .int .i64 (p5 : Int), .int .i64 0] 100)) from HC3.out.alloc _)
                        have HP4 := Lib.hid (HP5.out.kept0 ((Chg.refl [] w3).alloc (.cells #[.slice a5 n5 c5, .int .i64 (p5 : Int), .int .i64 0] 100)))
                        have hne1 : ¬ gb = w3.heap.size := by omega
                        have hne2 : ¬ w3.heap.size = gb := by omega
                        have hlt4 : gb < w3.heap.size + 1 := by omega
                        clear hp5 hc5 hb5 hC3 hgot y0 yf hvl hwv how hgo4 y0'
                        have hx5 := hxq.out
                        go_wp2_with fail
                        generalize w3.alloc (.cells #[.slice a5 n5 c5, .int .i64 (p5 : Int), .int .i64 0] 100) = W4 at *
                        generalize w3.heap.size = wb at *
                        have m0 := cell_of_obj HGO4.out (j := 0) rfl
                        have n0 := cell_of_obj HOW.out (j := 0) rfl
                        have n1 := cell_of_obj HOW.out (j := 1) rfl
                        have za0 := fun (o : Obj) => cell_of_obj (obj_alloc_old HGO4.out o) (j := 0) rfl
                        have za1 := fun (o : Obj) => cell_of_obj (obj_alloc_old HOW.out o) (j := 0) rfl
                        have za2 := fun (o : Obj) => cell_of_obj (obj_alloc_old HOW.out o) (j := 1) rfl
                        clear hlt4 hgl
                        go_region_law ((refine step_append_row (by rfl) _ _ 66 (by rfl) 98 i0 _ 4 56 Tryd.underlying66 hi hz0 hz1 hz2 (by rfl) (by decide) _ ts.length (tcells ts vs) (by rfl) ((HI2.out.toks.row.kept0 HC4.out).kept0 ((Chg.refl [] _).drew.alloc _)) _ 1 1 (tokCells 1 ((l.drop p).take (p5 - p)) (.slice a5 n5 c5) p) (by rfl) (by simp [tokCells]) (srcNew _ _ _ _) (one_tok _ _ _ _ _ _) (by unfold maxLen; omega) (by omega) ?_; intro v' w5 r5 q5 g5; obtain ⟨a', cap, rfl, _⟩ := r5.shape; have hob := q5.obj (((Chg.refl [] W4).drew.alloc _).obj HGO4.out (by simp)) HGB.out; have how5 := q5.obj (((Chg.refl [] W4).drew.alloc _).obj HOW.out (by simp)) HWV.out; have k0 := cell_of_obj hob (j := 0) rfl; have kf := free_of_obj hob 0; have kw1 := cell_of_obj how5 (j := 1) rfl; have FIN := Lib.hid (HI2.out.added (HC4.out.then0 ((Chg.refl [] _).drew.alloc _)) q5 1 ((l.drop p).take (p5 - p)) r5 (fun x hx => (g5 x hx).imp id (fun h => by simpa using h)) (HP4.out.kept0 ((Chg.refl [] _).drew.alloc _)) ⟨a5, n5, c5, rfl⟩ HB5.out p5 HGT.out HW5.out); clear r5 q5 g5 hob how5))
                        all_goals
                          go_wp2
                          go_roundg g
                          case measure => omega
                          case rel => exact ⟨p5, _, _, _, by have := HG.out; have := HGT.out; omega, rfl, FIN.out, hb2⟩
                  · have hb := Lib.hid (show R = Lx.tokP g (l.drop (p + sg.length)) (p + sg.length) (ts ++ [⟨2, sg, [], p⟩]) from by
                      rw [hr.out, tokP_cons, if_neg NA.out, if_neg NB.out, if_neg NC.out, HS.out, if_pos hD, ← List.drop_drop, HBT.out])
                    have hfw := HI2.out.few
                    have tf : ts.length ≤ 2048 := by omega
                    have HGB := Lib.hid HI2.out.out.2
                    have hgl := lt_of_obj HI2.out.got
                    have hsl := signOf_len (b :: t2)
                    rw [HS.out, List.length_cons] at hsl
                    have hsp : 0 < sg.length := List.length_pos_iff.2 hD
                    have lx : (l.length : Int) ≤ 2048 := by have := HL8.out; omega
                    have hlb := HLL.out
                    have k1 : (sg.length : Int) ≤ 2048 := by omega
                    have hzs := Lx.strB_size sg
                    have hst := Lx.strB_toList sg
                    have hse : sg.isEmpty = false := by cases sg with
                      | nil => exact absurd rfl hD
                      | cons _ _ => rfl
                    have HSL := Lib.hid (show p < p + sg.length ∧ p + sg.length ≤ l.length from by omega)
                    clear hr hfw hsl hsp hD hlb
                    go_wp2_with (at_builtin; refine wpList_append_row _ rfl _ _ 66 rfl 98 i0 _ 4 56 Tryd.underlying66 hi hz0 hz1 hz2 rfl (by decide) _ ts.length (tcells ts vs) rfl (HI2.out.toks.row.kept0 ((Chg.refl [] _).alloc _)) _ 1 1 (tokCells 2 sg (.slice none 0 0) p) rfl (by simp [tokCells]) (srcNew _ _ _ _) (one_tok _ _ _ _ _ _) (by unfold maxLen; omega) (by omega) ?_)
                    intro v' w5 r5 q5 g5
                    obtain ⟨a', cap, rfl, _⟩ := r5.shape
                    have hob := q5.obj (((Chg.refl [] w2).alloc _).obj HI2.out.got (by simp)) HGB.out
                    have k0 := cell_of_obj hob (j := 0) rfl
                    have kf := free_of_obj hob 0
                    have FIN := Lib.hid (HI2.out.added ((Chg.refl [] _).alloc _) q5 2 sg r5 (fun x hx => (g5 x hx).imp id (fun h => by simpa using h)) (PartsR.nil _ _) ⟨none, 0, 0, rfl⟩ (by simp [rowBlock]) (p + sg.length) HSL.out.1 HSL.out.2)
                    clear r5 q5 g5 hob
                    go_wp2
                    go_roundg g
                    case measure => omega
                    case rel => exact ⟨p + sg.length, _, _, _, by have := HG.out; have := HSL.out; omega, by go_num, FIN.out, hb⟩
        · have hpd : decide (p < l.length) = false := decide_eq_false (by omega)
          have e : T = (0, 0, ts) := by
            rw [HE2.out, hr.out, List.drop_of_length_le (by omega), tokP_nil]
            rfl
          have HTE := Lib.hid e
          have u0 := cell_of_obj HI.out.res (j := 0) rfl
          have u1 := cell_of_obj HI.out.res (j := 1) rfl
          have u2 := cell_of_obj HI.out.res (j := 2) rfl
          have v0 := free_of_obj HI.out.res 0
          have v1 := free_of_obj HI.out.res 1
          have v2 := free_of_obj HI.out.res 2
          have z1 := cell_of_obj HI.out.got (j := 1) rfl
          have z2 := cell_of_obj HI.out.got (j := 2) rfl
          clear hr HE2 e
          go_wp2_with fail
          refine bodyPost_ret (v := .agg #[.slice a0 ts.length c0, .int .i64 0, .int .i64 0]) (by simp [results, Tryd.results15, go_sem, HI.out.res.r0, HI.out.res.r1, HI.out.res.r2]) rfl ?_
          rw [HTE.out]
          exact got_some HI.out _ _ _

end Go.Proofs.YtfgbbmnmblchiaaDoor
