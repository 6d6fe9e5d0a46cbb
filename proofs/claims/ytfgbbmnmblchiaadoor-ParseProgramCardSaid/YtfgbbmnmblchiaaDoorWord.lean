/-
  A word: walked.
-/
import Derived.Test.YtfgbbmnmblchiaaDoorArm
namespace Go.Proofs.YtfgbbmnmblchiaaDoor
open Go.RowKit
set_option linter.unusedVariables false

theorem wp_of_frame {rb q : Nat} {v : Value} {P : Program} {r : Code} {Q : Exit → Act → World → Prop} {W : World} {t : Array Value} (h : t = WordAct rb q v (fun i => t.getD i undef)) (hw : ∀ us, r.wp P Q { tmps := WordAct rb q v us, defers := [] } W) : r.wp P Q { tmps := t, defers := [] } W :=
  (congrArg (fun t => r.wp P Q { tmps := t, defers := [] } W) h).mpr (hw _)

set_option maxHeartbeats 4000000 in
set_option maxRecDepth 100000 in
theorem word_any (rb : Nat) (l : List UInt8) (a0 : Option Addr) (N c0 : Nat) (xs : List Value) (q : Nat) (w : World)
    (hR : ReadAt w rb l q (.slice a0 N c0)) (hO : Row w 65 4 (.slice a0 N c0) N xs) (hrb : rb ∉ rowBlock (.slice a0 N c0)) (hl : l.length ≤ 2048) (hq : q < l.length) (hN : N ≤ 2048) (hT : Hid (U8 w)) :
    Calls Tryd.prog 24 #[.pointer (some ⟨rb, 0, none⟩)] w (WordPost w rb l (.slice a0 N c0) N xs q (Lx.wordP (l.length + 1) (l.drop q) q [])) := by
  obtain ⟨i0, hi, hz0, hz1, hz2⟩ := info_parts Tryd.infoTok
  obtain ⟨R, hQ⟩ : ∃ R, Lx.wordP (l.length + 1) (l.drop q) q [] = R := ⟨_, rfl⟩
  rw [hQ]
  have HQ := Lib.hid hQ
  have HR := Lib.hid hR
  have HO := Lib.hid hO
  have HRB := Lib.hid hrb
  have HL := Lib.hid hl
  have x1 := hR.c1
  have hsz := Lx.strB_size l
  have HI0 := Lib.hid (show QuotAt w rb l (.slice a0 N c0) (.slice none 0 0) q [] none 0 0 w from
    { read := hR, parts := PartsAt.nil w none, out := by simp [rowBlock], chg := Chg.refl _ _, row := by simp [rowBlock], sm := Sm.nil _, le := by omega })
  have hq0 : (0 : Int) ≤ (q : Int) := by omega
  have hq1 : (q : Int) ≤ 2048 := by omega
  clear hQ hR hO hrb hl
  go_enter Tryd.func24, Tryd.ntmps24
  go_wp2
  refine wp_scope_two (fun g a' w' => ∃ (p : Nat) (ps : List Lx.Part) (a : Option Addr) (n c : Nat), l.length < p + g ∧ q ≤ p ∧ (∃ us, a' = { tmps := WordAct rb q (.slice a n c) us, defers := [] }) ∧ QuotAt w rb l (.slice a0 N c0) (.slice none 0 0) p ps a n c w' ∧ Hid (R = Lx.wordP g (l.drop p) p ps)) rfl rfl ?_ ?_
  · clear x1
    rintro g a' wr ⟨p, ps, a, n, c, hg, hqp, ⟨us, rfl⟩, hI, hr⟩
    simp only [WordAct]
    have hle := hI.le
    have HI := Lib.hid hI
    have x0 := hI.read.c0
    have x1 := hI.read.c1
    have xf := hI.read.free 1
    clear hI
    obtain ⟨g1, rfl⟩ : ∃ g1, g = g1 + 1 := ⟨g - 1, by omega⟩
    have HG := Lib.hid hg
    clear hg
    have hL := HL.out
    have p0 : (0 : Int) ≤ (p : Int) := by omega
    have p1 : (p : Int) ≤ 2048 := by omega
    have p2 : (p : Int) ≤ (l.length : Int) := by omega
    have hx : (Lx.strB l).extract p l.length = Lx.strB (l.drop p) := by
      have := Lx.strB_tail l p
      rw [hsz] at this
      exact this
    obtain ⟨n1, hn1⟩ : ∃ n1, plainLen (l.drop p) = n1 := ⟨_, rfl⟩
    have hpf := plain_facts (l.drop p)
    have hpl := fun (W : World) => plain_list (l.drop p) W (by rw [List.length_drop]; omega)
    rw [hn1] at hpf hpl
    have HPL := Lib.hid hpl
    have HPF := Lib.hid hpf
    have hn1l := hpf.1
    rw [List.length_drop] at hn1l
    clear hpl hpf hn1 hL
    have n0 : (0 : Int) ≤ (n1 : Int) := by omega
    have n2 : (n1 : Int) ≤ 2048 := by have := HL.out; omega
    have n3 : (p : Int) + (n1 : Int) ≤ (l.length : Int) := by omega
    have n4 : (p : Int) ≤ (p : Int) + (n1 : Int) := by omega
    have n5 : (0 : Int) ≤ (p : Int) + (n1 : Int) := by omega
    have hwn : IntKind.i64.wrap ((p : Int) + (n1 : Int)) = (p : Int) + (n1 : Int) := by rw [IntKind.wrap_i64]; omega
    go_wp2_with fail
    go_region_held3 (fun w' => w'.cell? ⟨rb, 0, none⟩ = some (.string (Lx.strB l)) ∧ w'.cell? ⟨rb, 1, none⟩ = some (.int .i64 p)) (first | exact ⟨x0, x1⟩ | exact ⟨y0, y1⟩)
      ((go_at_call 40; refine (HPL.out _).mono ?_; rintro e w1 ⟨rfl, hc1⟩; have HC1 := Lib.hid hc1.drew0; have y0 := HC1.out.cell x0 (by simp); have y1 := HC1.out.cell x1 (by simp); have HI1 := Lib.hid (HI.out.kept0 HC1.out); clear hc1))
    all_goals
      go_upto_if 27 with fail
      generalize hbb : decide (0 < n1) = bb
      have y0 := HI1.out.read.c0
      have y1 := HI1.out.read.c1
      have yf := HI1.out.read.free 1
      go_cut [4] (fun v4 wc => ∃ (g' p' : Nat) (ps' : List Lx.Part) (a' : Option Addr) (n' c' : Nat), v4 = .slice a' n' c' ∧ l.length < p' + (g' + 1) ∧ q ≤ p' ∧ g' ≤ g1 ∧ QuotAt w rb l (.slice a0 N c0) (.slice none 0 0) p' ps' a' n' c' wc ∧ Hid (R = Lx.wordP (g' + 1) (l.drop p') p' ps') ∧ (p' < l.length → Lx.specB (l.getD p' 0) = true))
      case first =>
        cases bb with
        | false =>
          have hn : n1 = 0 := by have := of_decide_eq_false hbb; omega
          subst hn
          clear hbb
          go_wp2_with fail
          go_meet
          case rel =>
            refine ⟨g1, p, ps, a, n, c, rfl, HG.out, hqp, Nat.le_refl _, HI1.out, hr, fun h => ?_⟩
            have := HPF.out.2.2 (by rw [List.length_drop]; omega)
            rwa [drop_at l p h] at this
        | true =>
          have HN := Lib.hid (show 0 < n1 from of_decide_eq_true hbb)
          clear hbb
          have hxx := Lib.hid (show (Lx.strB l).extract p ((p : Int) + (n1 : Int)).toNat = Lx.strB ((l.drop p).take n1) from by rw [show ((p : Int) + (n1 : Int)).toNat = p + n1 from by omega, Lx.strB_extract, show p + n1 - p = n1 from by omega])
          have hx5 := hxx.out
          have HLE := Lib.hid (show ps.length ≤ 1000000 from by have := HI.out.sm.len; have := HL.out; omega)
          have HTE := Lib.hid (show ∀ y ∈ ps, y.text.length + ((l.drop p).take n1).length ≤ 1000000 from fun y hy => by have := HI.out.sm.txt y hy; have := HL.out; rw [List.length_take]; omega)
          have HSQ := Lib.hid (show Sm (Lx.addP ps 1 ((l.drop p).take n1)) (p + n1) from HI.out.sm.add 1 _ (by rw [List.length_take]; omega) (by have := HN.out; omega))
          have hb := Lib.hid (show R = Lx.wordP (g1 - n1 + 1) (l.drop (p + n1)) (p + n1) (Lx.addP ps 1 ((l.drop p).take n1)) from by
            have hgg := HG.out
            have h9 := HN.out
            rw [hr.out, show g1 + 1 = (g1 - n1 + 1) + n1 from by omega, wordP_plain n1 _ _ _ _ HPF.out.1 HPF.out.2.1, List.drop_drop, addRun, if_neg]
            intro e
            have := congrArg List.length e
            rw [List.length_take, List.length_drop, List.length_nil] at this
            omega)
          clear hr hx
          go_wp2_with fail
          go_region_held3 (fun w' => w'.cell? ⟨rb, 0, none⟩ = some (.string (Lx.strB l)) ∧ w'.cell? ⟨rb, 1, none⟩ = some (.int .i64 p)) (first | exact ⟨y0, y1⟩ | exact ⟨z0, z1⟩)
            ((go_at_call 41; refine (add_any a n c ps 1 ((l.drop p).take n1) _ (HI1.out.parts.kept0 (Chg.refl [] _).drew) HLE.out HTE.out).mono ?_; rintro e w6 ⟨a6, n6, c6, rfl, P6, C6, B6⟩; have HC6 := Lib.hid C6.drew0; have HP6 := Lib.hid P6; have HB6 := Lib.hid B6; have z0 := HC6.out.cell y0 HI1.out.out; have z1 := HC6.out.cell y1 HI1.out.out; have zf := (HI1.out.read.kept HC6.out HI1.out.out).free 1; clear P6 C6 B6))
          all_goals
            go_wp2
            go_meet
            case rel =>
              refine ⟨g1 - n1, p + n1, _, a6, n6, c6, rfl, by have := HG.out; omega, by omega, by omega, HI1.out.added HP6.out HC6.out HB6.out (p + n1) _ (by omega) HSQ.out (by omega), hb, fun h => ?_⟩
              have := HPF.out.2.2 (by rw [List.length_drop]; omega)
              rwa [List.getD_eq_getElem?_getD, List.getElem?_drop, ← List.getD_eq_getElem?_getD] at this
      case rest =>
        obtain ⟨g', p', qs, a2, n2', c2, rfl, hg2, hqp2, hgl, hI2, hr2, hsp⟩ := hcut
        clear hx hr HI HI1 HPL HPF y0 y1 yf x0 x1 xf hwn n0 n2 n3 n4 n5 hn1l
        have HI2 := Lib.hid hI2
        have hle2 := hI2.le
        clear hI2
        have x0 := HI2.out.read.c0
        have x1 := HI2.out.read.c1
        have xf := HI2.out.read.free 1
        by_cases hp : p' < l.length
        · have hpd : decide (l.length ≤ p') = false := decide_eq_false (by omega)
          obtain ⟨b, t2, hbt⟩ : ∃ b t2, l.drop p' = b :: t2 := ⟨_, _, drop_at l p' hp⟩
          obtain ⟨x, hbx⟩ : ∃ x, b.toNat = x := ⟨_, rfl⟩
          have hbd : l.getD p' 0 = b := by
            have := drop_at l p' hp
            rw [hbt] at this
            exact (List.cons.inj this).1.symm
          have hx : ∀ h, ((Lx.strB l)[p']'h).toNat = x := fun h => by rw [Lx.strB_get, hbd]; exact hbx
          have hb8 : ∀ y : UInt8, b = y ↔ x = y.toNat := fun y => ⟨fun e => by rw [← hbx, e], fun e => UInt8.toNat_inj.1 (hbx.trans e)⟩
          have hs2 := hsp hp
          rw [hbd] at hs2
          rw [hbt] at hr2
          have HBT := Lib.hid hbt
          have HB8 := Lib.hid hb8
          have HS2 := Lib.hid hs2
          have HG2 := Lib.hid hg2
          have r0 : (0 : Int) ≤ (p' : Int) := by omega
          have r1 : (p' : Int) < (l.length : Int) := by omega
          have r2 : (p' : Int) ≤ 2048 := by have := HL.out; omega
          clear hbt hb8 hbx hg2 hsp hs2 hbd
          go_wp2_with fail
          go_quiet (fail)
          all_goals
            have HI7 := Lib.hid (HI2.out.drewN nq)
            generalize wc.drewN nq = W7 at *
            have u0 := HI7.out.read.c0
            have u1 := HI7.out.read.c1
            go_wp2_with fail
            go_quiet (fail)
            all_goals
              have HI8 := Lib.hid (HI7.out.drewN nq)
              generalize W7.drewN nq = W8 at *
              have v0 := HI8.out.read.c0
              have v1 := HI8.out.read.c1
              have vf := HI8.out.read.free 1
              by_cases h39 : x = 39
              · subst h39
                have hlb := congrArg List.length HBT.out
                rw [List.length_drop, List.length_cons] at hlb
                have hdt : l.drop (p' + 1) = t2 := by rw [← List.drop_drop, HBT.out]; rfl
                have hll : l.length = p' + (t2.length + 1) := by omega
                clear hlb
                have hx1 : (Lx.strB l).extract (p' + 1) l.length = Lx.strB t2 := by rw [← hdt, ← Lx.strB_tail, hsz]
                have hb := Lib.hid (show R = (match Lx.idx 39 t2 with | none => .bad p' | some k => Lx.wordP g' (t2.drop (k + 1)) (p' + k + 2) (Lx.addP qs 1 (t2.take k))) from by
                  rw [hr2.out, wordP_cons, (HB8.out 39).2 rfl, if_neg (by decide), if_pos rfl]
                  rfl)
                clear hr2
                have HIB0 := idx_any t2
                have s1 : (p' : Int) + 1 ≤ (l.length : Int) := by omega
                have s2 : (0 : Int) ≤ (p' : Int) + 1 := by omega
                have HW1 := Lib.hid (show IntKind.i64.wrap ((p' : Int) + 1) = (p' : Int) + 1 from by rw [IntKind.wrap_i64]; omega)
                obtain ⟨K, hK⟩ : ∃ K, Lx.idx 39 t2 = K := ⟨_, rfl⟩
                rw [hK] at hb HIB0
                have HIB := Lib.hid HIB0
                have HK := Lib.hid hK
                have HLL := Lib.hid hll
                have HDT := Lib.hid hdt
                clear HIB0 hK hll hdt
                cases K with
                | none =>
                  have HF := Lib.hid (show ∀ W, Chg [] W8 W → WordPost w rb l (.slice a0 N c0) N xs q R (.returned (.int .i64 p')) W from fun W hW => by rw [hb.out]; exact word_bad HI8.out _ W hW)
                  clear hb
                  have hw1 := HW1.out
                  go_wp2_with fail
                  go_quiet ((go_at_call 23; exact Calls.quiet_of_same (HIB.out _)))
                  all_goals
                    have z1 := (HI8.out.drewN nq).read.c1
                    simp only [placeI]
                    go_wp2_with fail
                    simp only [ExitTwo_ret]
                    go_ret
                    exact HF.out _ ((Chg.refl [] _).drewN _)
                | some k =>
                  have hk := idx_lt _ _ _ HK.out
                  have k0 : (0 : Int) ≤ (k : Int) := by omega
                  have kd : decide ((k : Int) < 0) = false := decide_eq_false (by omega)
                  have k1 : (k : Int) ≤ 2048 := by have := HLL.out; have := HL.out; omega
                  have k2 : (p' : Int) + 1 + (k : Int) ≤ (l.length : Int) := by have := HLL.out; omega
                  have k3 : (p' : Int) + 1 ≤ (p' : Int) + 1 + (k : Int) := by omega
                  have k4 : (0 : Int) ≤ (p' : Int) + 1 + (k : Int) := by omega
                  have HW2 := Lib.hid (show IntKind.i64.wrap ((p' : Int) + 1 + (k : Int)) = (p' : Int) + 1 + (k : Int) from by rw [IntKind.wrap_i64]; omega)
                  have hxt : Lx.strB ((l.drop (p' + 1)).take k) = Lx.strB (t2.take k) := by rw [HDT.out]
                  have hx5 := Lib.hid (show (Lx.strB l).extract (p' + 1) (p' + 1 + k) = Lx.strB (t2.take k) from by rw [Lx.strB_extract, show p' + 1 + k - (p' + 1) = k from by omega, hxt])
                  have hx6 := Lib.hid (show (Lx.strB l).extract (p' + 1) ((p' : Int) + 1 + (k : Int)).toNat = Lx.strB (t2.take k) from by rw [show ((p' : Int) + 1 + (k : Int)).toNat = p' + 1 + k from by omega]; exact hx5.out)
                  have HLE := Lib.hid (show qs.length ≤ 1000000 from by have := HI8.out.sm.len; have := HL.out; omega)
                  have HTE := Lib.hid (show ∀ y ∈ qs, y.text.length + (t2.take k).length ≤ 1000000 from fun y hy => by have := HI8.out.sm.txt y hy; have := HL.out; rw [List.length_take]; omega)
                  have HSQ := Lib.hid (show Sm (Lx.addP qs 1 (t2.take k)) (p' + k + 2) from (HI8.out.sm.add 1 (t2.take k) (M := k + 2) (by rw [List.length_take]; omega) (by omega)).mono (by omega))
                  have hb2 := Lib.hid (show R = Lx.wordP g' (l.drop (p' + k + 2)) (p' + k + 2) (Lx.addP qs 1 (t2.take k)) from by
                    refine hb.out.trans ?_
                    show Lx.wordP g' (t2.drop (k + 1)) (p' + k + 2) (Lx.addP qs 1 (t2.take k)) = _
                    rw [show t2.drop (k + 1) = l.drop (p' + k + 2) from by rw [← HDT.out, List.drop_drop, show p' + 1 + (k + 1) = p' + k + 2 from by omega]])
                  clear hb hxt
                  have HKK := Lib.hid hk
                  clear hk
                  have hw1 := HW1.out
                  have hw2 := HW2.out
                  go_wp2_with fail
                  go_quiet ((go_at_call 23; exact Calls.quiet_of_same (HIB.out _)))
                  all_goals
                    have HI9 := Lib.hid (HI8.out.drewN nq)
                    generalize W8.drewN nq = W9 at *
                    have u0 := HI9.out.read.c0
                    have u1 := HI9.out.read.c1
                    have uf := HI9.out.read.free 1
                    have xx5 := hx5.out
                    have xx6 := hx6.out
                    simp only [placeI]
                    clear hx1
                    go_wp2_with fail
                    go_region_held3 (fun w' => w'.cell? ⟨rb, 0, none⟩ = some (.string (Lx.strB l)) ∧ w'.cell? ⟨rb, 1, none⟩ = some (.int .i64 p')) (first | exact ⟨u0, u1⟩ | exact ⟨z0, z1⟩)
                      ((go_at_call 41; refine (add_any a2 n2' c2 qs 1 (t2.take k) _ (HI9.out.parts.kept0 (Chg.refl [] _).drew) HLE.out HTE.out).mono ?_; rintro e w6 ⟨a6, n6, c6, rfl, P6, C6, B6⟩; have HC6 := Lib.hid C6.drew0; have HP6 := Lib.hid P6; have HB6 := Lib.hid B6; have z0 := HC6.out.cell u0 HI9.out.out; have z1 := HC6.out.cell u1 HI9.out.out; have zf := (HI9.out.read.kept HC6.out HI9.out.out).free 1; clear P6 C6 B6))
                    all_goals
                      clear hw1 hw2
                      go_wp2
                      go_step3
                      simp only [Exit.inBlock, Exit.then]
                      refine Eq.mpr ExitTwo_zero ?_
                      exact ⟨g', by omega, p' + k + 2, _, a6, n6, c6, by have := HG2.out; omega, by omega, WordAct_intro rfl, HI9.out.added HP6.out HC6.out HB6.out (p' + k + 2) _ (by omega) HSQ.out (by have := HLL.out; have := HKK.out; omega), hb2⟩
              · by_cases h34 : x = 34
                · subst h34
                  have hlb := congrArg List.length HBT.out
                  rw [List.length_drop, List.length_cons] at hlb
                  have hdt : l.drop (p' + 1) = t2 := by rw [← List.drop_drop, HBT.out]; rfl
                  have hll : l.length = p' + (t2.length + 1) := by omega
                  clear hlb
                  have e39 : ((34 : Int) == 39) = false := by decide
                  have hd34 := Lib.hid (show l.drop p' = 34 :: t2 from by rw [HBT.out, (HB8.out 34).2 rfl])
                  have hb := Lib.hid (show R = (match Lx.quotP p' (t2.length + 1) t2 (p' + 1) qs with | .bad e => .bad e | .ok (l', p'') => Lx.wordP g' ((b :: t2).drop (p'' - p')) p'' l') from by
                    rw [hr2.out, wordP_cons, (HB8.out 34).2 rfl, if_neg (by decide), if_neg (by decide), if_pos rfl]
                    rfl)
                  clear hr2
                  obtain ⟨V, hV⟩ : ∃ V, Lx.quotP p' (t2.length + 1) t2 (p' + 1) qs = V := ⟨_, rfl⟩
                  rw [hV] at hb
                  have HV := Lib.hid hV
                  have HLL := Lib.hid hll
                  have HSM := HI8.out.sm
                  clear hV hll hdt
                  cases V with
                  | bad i =>
                    have HF := Lib.hid (show ∀ W, Chg (rb :: rowBlock (.slice a2 n2' c2)) W8 W → WordPost w rb l (.slice a0 N c0) N xs q R (.returned (.int .i64 i)) W from fun W hW => by
                      rw [hb.out]
                      exact ⟨rfl, Chg.trans (F := [rb]) HI8.out.chg hW (fun x hx => by
                        rcases List.mem_cons.1 hx with rfl | hx
                        · exact .inl (by simp)
                        · rcases HI8.out.row x hx with h | h
                          · simp [rowBlock] at h
                          · exact .inr h)⟩)
                    have i0 : (0 : Int) ≤ (i : Int) := by omega
                    have id0 : decide ((0 : Int) ≤ (i : Int)) = true := decide_eq_true i0
                    clear hb
                    go_wp2_with fail
                    refine (quoted_any rb l _ p' a2 n2' c2 qs t2 _ HI8.out.read HI8.out.parts HI8.out.out hd34.out HL.out HSM).mono ?_
                    rw [HV.out]
                    rintro e w5 ⟨rfl, hc5⟩
                    have HC5 := Lib.hid hc5
                    clear hc5
                    go_wp2_with fail
                    simp only [ExitTwo_ret]
                    go_ret
                    exact HF.out _ HC5.out
                  | ok pr =>
                    obtain ⟨ps5, p5⟩ := pr
                    have hqo := quotP_ok p' _ _ _ _ _ _ (HSM.mono (by omega)) HV.out
                    have HQO := Lib.hid hqo
                    have hb2 := Lib.hid (show R = Lx.wordP g' (l.drop p5) p5 ps5 from by
                      have := hqo.1
                      refine hb.out.trans ?_
                      show Lx.wordP g' ((b :: t2).drop (p5 - p')) p5 ps5 = _
                      rw [← HBT.out, List.drop_drop, show p' + (p5 - p') = p5 from by omega])
                    clear hb hqo
                    go_wp2_with fail
                    refine (quoted_any rb l _ p' a2 n2' c2 qs t2 _ HI8.out.read HI8.out.parts HI8.out.out hd34.out HL.out HSM).mono ?_
                    rw [HV.out]
                    rintro e w5 ⟨a5, n5, c5, rfl, hp5, hr5, hc5, hb5⟩
                    have HI5 := Lib.hid (HI8.out.next hp5 hr5 hc5 hb5 HQO.out.2.2 (by have := HQO.out; have := HLL.out; omega))
                    clear hp5 hr5 hc5 hb5
                    go_wp2
                    go_step3
                    simp only [Exit.inBlock, Exit.then]
                    refine Eq.mpr ExitTwo_zero ?_
                    exact ⟨g', by omega, p5, _, a5, n5, c5, by have := HG2.out; have := HQO.out; omega, by have := HQO.out; omega, WordAct_intro rfl, HI5.out, hb2⟩
                · by_cases h36 : x = 36
                  · subst h36
                    have hlb := congrArg List.length HBT.out
                    rw [List.length_drop, List.length_cons] at hlb
                    have hdt : l.drop (p' + 1) = t2 := by rw [← List.drop_drop, HBT.out]; rfl
                    have hll : l.length = p' + (t2.length + 1) := by omega
                    clear hlb
                    have hd36 := Lib.hid (show l.drop p' = 36 :: t2 from by rw [HBT.out, (HB8.out 36).2 rfl])
                    have hb := Lib.hid (show R = (match Lx.varP qs 2 t2 with | none => .bad p' | some (l', n) => Lx.wordP g' ((b :: t2).drop n) (p' + n) l') from by
                      rw [hr2.out, wordP_cons, (HB8.out 36).2 rfl, if_neg (by decide), if_neg (by decide), if_neg (by decide), if_pos rfl]
                      rfl)
                    clear hr2
                    obtain ⟨V, hV⟩ : ∃ V, Lx.varP qs 2 t2 = V := ⟨_, rfl⟩
                    rw [hV] at hb
                    have HV := Lib.hid hV
                    have HLL := Lib.hid hll
                    have HSM := Lib.hid (show Sm qs 100000 from HI8.out.sm.mono (by omega))
                    clear hV hll hdt
                    cases V with
                    | none =>
                      have HF := Lib.hid (show ∀ W, Chg [] W8 W → WordPost w rb l (.slice a0 N c0) N xs q R (.returned (.int .i64 p')) W from fun W hW => by rw [hb.out]; exact word_bad HI8.out _ W hW)
                      clear hb
                      go_wp2_with fail
                      refine (var_any rb l _ p' a2 n2' c2 qs 2 t2 _ HI8.out.read HI8.out.parts HI8.out.out hd36.out HL.out HSM.out).mono ?_
                      rw [HV.out]
                      rintro e w5 ⟨rfl, hc5⟩
                      have HC5 := Lib.hid hc5
                      clear hc5
                      go_wp2_with fail
                      simp only [ExitTwo_ret]
                      go_ret
                      exact HF.out _ HC5.out
                    | some pm =>
                      obtain ⟨ps5, m⟩ := pm
                      have hm := varP_some HV.out
                      have HM := Lib.hid hm
                      have HSQ := Lib.hid (HI8.out.sm.var HV.out)
                      have hb2 := Lib.hid (show R = Lx.wordP g' (l.drop (p' + m)) (p' + m) ps5 from by
                        refine hb.out.trans ?_
                        show Lx.wordP g' ((b :: t2).drop m) (p' + m) ps5 = _
                        rw [← HBT.out, List.drop_drop])
                      clear hb hm
                      go_wp2_with fail
                      refine (var_any rb l _ p' a2 n2' c2 qs 2 t2 _ HI8.out.read HI8.out.parts HI8.out.out hd36.out HL.out HSM.out).mono ?_
                      rw [HV.out]
                      rintro e w5 ⟨a5, n5, c5, rfl, hp5, hr5, hc5, hb5⟩
                      have HI5 := Lib.hid (HI8.out.next hp5 hr5 hc5 hb5 HSQ.out (by have := HM.out; have := HLL.out; omega))
                      clear hp5 hr5 hc5 hb5
                      go_wp2
                      go_step3
                      simp only [Exit.inBlock, Exit.then]
                      refine Eq.mpr ExitTwo_zero ?_
                      exact ⟨g', by omega, p' + m, _, a5, n5, c5, by have := HG2.out; have := HM.out; omega, by omega, WordAct_intro rfl, HI5.out, hb2⟩
                  · by_cases h92 : x = 92
                    · subst h92
                      have hlb := congrArg List.length HBT.out
                      rw [List.length_drop, List.length_cons] at hlb
                      have hdt : l.drop (p' + 1) = t2 := by rw [← List.drop_drop, HBT.out]; rfl
                      have hll : l.length = p' + (t2.length + 1) := by omega
                      clear hlb
                      have hx1 : (Lx.strB l).extract (p' + 1) l.length = Lx.strB t2 := by rw [← hdt, ← Lx.strB_tail, hsz]
                      have hb := Lib.hid (show R = (if t2 = [] then .bad p' else Lx.wordP g' (t2.drop (Lx.wid t2)) (p' + 1 + Lx.wid t2) (if t2.head? = some 10 then qs else Lx.addP qs 1 (t2.take (Lx.wid t2)))) from by
                        rw [hr2.out, wordP_cons, (HB8.out 92).2 rfl, if_neg (by decide), if_neg (by decide), if_neg (by decide), if_neg (by decide), if_pos rfl])
                      clear hr2
                      have s1 : (p' : Int) + 1 ≤ (l.length : Int) := by omega
                      have s2 : (0 : Int) ≤ (p' : Int) + 1 := by omega
                      have HW1 := Lib.hid (show IntKind.i64.wrap ((p' : Int) + 1) = (p' : Int) + 1 from by rw [IntKind.wrap_i64]; omega)
                      have HLL := Lib.hid hll
                      have HDT := Lib.hid hdt
                      have HU := Lib.hid (show ∀ W, Chg [] W8 W → Hid (U8 W) from fun W hW => u8_kept (u8_quot hT HR.out HI8.out) hW (by simp) (by simp))
                      clear hll hdt
                      by_cases ht : t2 = []
                      · have HF := Lib.hid (show ∀ W, Chg [] W8 W → WordPost w rb l (.slice a0 N c0) N xs q R (.returned (.int .i64 p')) W from fun W hW => by rw [hb.out, if_pos ht]; exact word_bad HI8.out _ W hW)
                        have HD0 := Lib.hid (show ∀ (W : World) (h : Hid (U8 W)), Calls Tryd.prog 37 #[.string (Lx.strB t2)] W (fun e w' => e = .returned (.tuple #[.int .i32 65533, .int .i64 0]) ∧ Chg [] W w') from by
                          rw [ht]
                          exact decode_none)
                        clear hb ht
                        have hw1 := HW1.out
                        go_wp2_with fail
                        go_region_held3 (fun w' => w'.cell? ⟨rb, 0, none⟩ = some (.string (Lx.strB l)) ∧ w'.cell? ⟨rb, 1, none⟩ = some (.int .i64 p')) (first | exact ⟨v0, v1⟩ | exact ⟨z0, z1⟩)
                          ((go_at_call 37; refine (HD0.out _ (HU.out _ (Chg.refl [] _).drew)).mono ?_; rintro e w6 ⟨rfl, C6⟩; have HC6 := Lib.hid C6.drew0; have z0 := HC6.out.cell v0 (by simp); have z1 := HC6.out.cell v1 (by simp); clear C6))
                        all_goals
                          go_wp2_with fail
                          simp only [ExitTwo_ret]
                          go_ret
                          exact HF.out _ HC6.out
                      · have hwp := Lx.wid_pos t2 ht
                        have hwl := Lx.wid_le t2 ht
                        obtain ⟨d, t3, htd⟩ : ∃ d t3, t2 = d :: t3 := by
                          cases t2 with
                          | nil => exact absurd rfl ht
                          | cons d t3 => exact ⟨d, t3, rfl⟩
                        obtain ⟨y, hdy⟩ : ∃ y, d.toNat = y := ⟨_, rfl⟩
                        have hpl : p' + 1 < l.length := by
                          have := HLL.out
                          rw [htd, List.length_cons] at this
                          omega
                        have hy : ∀ h, ((Lx.strB l)[p' + 1]'h).toNat = y := fun h => by
                          have h5 := drop_at l (p' + 1) hpl
                          rw [HDT.out, htd] at h5
                          rw [Lx.strB_get, ← hdy, (List.cons.inj h5).1]
                        have s3 : (p' : Int) + 1 < (l.length : Int) := by omega
                        have hde := fun (W : World) (h : Hid (U8 W)) => decode_any t2 ht W h
                        obtain ⟨m, hm⟩ : ∃ m, Lx.wid t2 = m := ⟨_, rfl⟩
                        obtain ⟨u, hu⟩ : ∃ u, Lx.rune t2 = u := ⟨_, rfl⟩
                        rw [hm, hu] at hde
                        rw [hm] at hwp hwl
                        have HDE := Lib.hid hde
                        have m0 : (0 : Int) ≤ (m : Int) := by omega
                        have m1 : (m : Int) ≤ 2048 := by have := HLL.out; have := HL.out; omega
                        have m2 : ((m : Int) == 0) = false := by rw [beq_eq_false_iff_ne]; omega
                        have m3 : (p' : Int) + 1 + (m : Int) ≤ (l.length : Int) := by have := HLL.out; omega
                        have m4 : (p' : Int) + 1 ≤ (p' : Int) + 1 + (m : Int) := by omega
                        have m5 : (0 : Int) ≤ (p' : Int) + 1 + (m : Int) := by omega
                        have HW2 := Lib.hid (show IntKind.i64.wrap ((p' : Int) + 1 + (m : Int)) = (p' : Int) + 1 + (m : Int) from by rw [IntKind.wrap_i64]; omega)
                        have HML := Lib.hid (show p' + 1 + m ≤ l.length from by omega)
                        have hh : t2.head? = some 10 ↔ y = 10 := by
                          rw [htd, List.head?_cons]
                          constructor
                          · intro e
                            have e := Option.some.inj e
                            rw [← hdy, e]
                            rfl
                          · intro e
                            have : d = 10 := UInt8.toNat_inj.1 (hdy.trans e)
                            rw [this]
                        have HB := Lib.hid (show R = Lx.wordP g' (l.drop (p' + 1 + m)) (p' + 1 + m) (if t2.head? = some 10 then qs else Lx.addP qs 1 (t2.take m)) from by
                          rw [hb.out, if_neg ht, hm, ← List.drop_drop, HDT.out])
                        have HH := Lib.hid hh
                        clear hh hb hde hm hu hdy htd ht hwp hwl hpl
                        by_cases h10 : y = 10
                        · have hb2 := Lib.hid (show R = Lx.wordP g' (l.drop (p' + 1 + m)) (p' + 1 + m) qs from by rw [HB.out, if_pos (HH.out.2 h10)])
                          subst h10
                          clear HB HH
                          have hw1 := HW1.out
                          go_wp2_with fail
                          go_region_held3 (fun w' => w'.cell? ⟨rb, 0, none⟩ = some (.string (Lx.strB l)) ∧ w'.cell? ⟨rb, 1, none⟩ = some (.int .i64 p')) (first | exact ⟨v0, v1⟩ | exact ⟨z0, z1⟩)
                            ((go_at_call 37; refine (HDE.out _ (HU.out _ (Chg.refl [] _).drew)).mono ?_; rintro e w6 ⟨rfl, C6⟩; have HC6 := Lib.hid C6.drew0; have z0 := HC6.out.cell v0 (by simp); have z1 := HC6.out.cell v1 (by simp); clear C6))
                          all_goals
                            have HI9 := Lib.hid (HI8.out.kept0 HC6.out)
                            go_wp2_with fail
                            go_quiet (fail)
                            all_goals
                              have HI10 := Lib.hid (HI9.out.drewN nq)
                              generalize w6.drewN nq = W10 at *
                              have y0 := HI10.out.read.c0
                              have y1 := HI10.out.read.c1
                              have yf := HI10.out.read.free 1
                              clear hw1
                              go_wp2
                              go_step3
                              simp only [Exit.inBlock, Exit.then]
                              refine Eq.mpr ExitTwo_zero ?_
                              exact ⟨g', by omega, p' + 1 + m, _, a2, n2', c2, by have := HG2.out; omega, by omega, WordAct_intro rfl, HI10.out.moved (p' + 1 + m) _ (by omega) (by omega) HML.out, hb2⟩
                        · have hb2 := Lib.hid (show R = Lx.wordP g' (l.drop (p' + 1 + m)) (p' + 1 + m) (Lx.addP qs 1 (t2.take m)) from by rw [HB.out, if_neg (fun e => h10 (HH.out.1 e))])
                          have hyn : ((y : Int) != 10) = true := by rw [bne_iff_ne]; omega
                          clear HB HH h10
                          have hx5 := Lib.hid (show (Lx.strB l).extract (p' + 1) (p' + 1 + m) = Lx.strB (t2.take m) from by rw [Lx.strB_extract, show p' + 1 + m - (p' + 1) = m from by omega, HDT.out])
                          have hx6 := Lib.hid (show (Lx.strB l).extract (p' + 1) ((p' : Int) + 1 + (m : Int)).toNat = Lx.strB (t2.take m) from by rw [show ((p' : Int) + 1 + (m : Int)).toNat = p' + 1 + m from by omega]; exact hx5.out)
                          have HLE := Lib.hid (show qs.length ≤ 1000000 from by have := HI8.out.sm.len; have := HL.out; omega)
                          have HTE := Lib.hid (show ∀ y ∈ qs, y.text.length + (t2.take m).length ≤ 1000000 from fun y hy => by have := HI8.out.sm.txt y hy; have := HL.out; rw [List.length_take]; omega)
                          have HSQ := Lib.hid (show Sm (Lx.addP qs 1 (t2.take m)) (p' + 1 + m) from (HI8.out.sm.add 1 (t2.take m) (M := 1 + m) (by rw [List.length_take]; omega) (by omega)).mono (by omega))
                          have hw1 := HW1.out
                          have hw2 := HW2.out
                          go_wp2_with fail
                          go_region_held3 (fun w' => w'.cell? ⟨rb, 0, none⟩ = some (.string (Lx.strB l)) ∧ w'.cell? ⟨rb, 1, none⟩ = some (.int .i64 p')) (first | exact ⟨v0, v1⟩ | exact ⟨z0, z1⟩)
                            ((go_at_call 37; refine (HDE.out _ (HU.out _ (Chg.refl [] _).drew)).mono ?_; rintro e w6 ⟨rfl, C6⟩; have HC6 := Lib.hid C6.drew0; have z0 := HC6.out.cell v0 (by simp); have z1 := HC6.out.cell v1 (by simp); clear C6))
                          all_goals
                            have HI9 := Lib.hid (HI8.out.kept0 HC6.out)
                            go_wp2_with fail
                            go_quiet (fail)
                            all_goals
                              have HI10 := Lib.hid (HI9.out.drewN nq)
                              generalize w6.drewN nq = W10 at *
                              have y0 := HI10.out.read.c0
                              have y1 := HI10.out.read.c1
                              have yf := HI10.out.read.free 1
                              have xx5 := hx5.out
                              have xx6 := hx6.out
                              clear hx1 hy
                              go_wp2_with fail
                              go_region_held3 (fun w' => w'.cell? ⟨rb, 0, none⟩ = some (.string (Lx.strB l)) ∧ w'.cell? ⟨rb, 1, none⟩ = some (.int .i64 p')) (first | exact ⟨y0, y1⟩ | exact ⟨w0, w1⟩)
                                ((go_at_call 41; refine (add_any a2 n2' c2 qs 1 (t2.take m) _ (HI10.out.parts.kept0 (Chg.refl [] _).drew) HLE.out HTE.out).mono ?_; rintro e w7 ⟨a6, n6, c6, rfl, P7, C7, B7⟩; have HC7 := Lib.hid C7.drew0; have HP7 := Lib.hid P7; have HB7 := Lib.hid B7; have w0 := HC7.out.cell y0 HI10.out.out; have w1 := HC7.out.cell y1 HI10.out.out; have wf := (HI10.out.read.kept HC7.out HI10.out.out).free 1; clear P7 C7 B7))
                              all_goals
                                clear hw1 hw2
                                go_wp2
                                go_step3
                                simp only [Exit.inBlock, Exit.then]
                                refine Eq.mpr ExitTwo_zero ?_
                                exact ⟨g', by omega, p' + 1 + m, _, a6, n6, c6, by have := HG2.out; omega, by omega, WordAct_intro rfl, HI10.out.added HP7.out HC7.out HB7.out (p' + 1 + m) _ (by omega) HSQ.out HML.out, hb2⟩
                    · have e39 : ((x : Int) == 39) = false := by rw [beq_eq_false_iff_ne]; omega
                      have e34 : ((x : Int) == 34) = false := by rw [beq_eq_false_iff_ne]; omega
                      have e36 : ((x : Int) == 36) = false := by rw [beq_eq_false_iff_ne]; omega
                      have e92 : ((x : Int) == 92) = false := by rw [beq_eq_false_iff_ne]; omega
                      have hb := Lib.hid (show R = .ok (qs, p') from by
                        rw [hr2.out, wordP_cons, if_pos]
                        cases he : Lx.endB b with
                        | true => rfl
                        | false =>
                          have hs := HS2.out
                          have i1 : ¬ b = 39 := fun e => h39 ((HB8.out 39).1 e)
                          have i2 : ¬ b = 34 := fun e => h34 ((HB8.out 34).1 e)
                          have i3 : ¬ b = 36 := fun e => h36 ((HB8.out 36).1 e)
                          have i4 : ¬ b = 92 := fun e => h92 ((HB8.out 92).1 e)
                          simp only [Lx.endB, Lx.specB, List.contains_cons, List.contains_nil, Bool.or_false, Bool.or_eq_true, Bool.or_eq_false_iff, beq_iff_eq, beq_eq_false_iff_ne] at he hs
                          exfalso
                          obtain ⟨j1, j2, j3, j4, j5, j6, j7, j8, j9, j10⟩ := he
                          rcases hs with hs | hs | hs | hs | hs | hs | hs | hs | hs | hs | hs | hs | hs | hs <;> contradiction)
                      clear hr2
                      go_wp2_with fail
                      go_step3
                      simp only [Exit.then]
                      rename_i hK
                      refine hK _ _ ?_
                      clear hK
                      refine wp_of_frame (rb := rb) (q := q) (v := .slice a2 n2' c2) rfl fun us' => ?_
                      refine wp_mono (word_end rb l a0 N c0 xs q w W8 p' qs a2 n2' c2 us' HO.out HRB.out HL.out hN hqp2 HI8.out _ rfl) ?_
                      rw [← hb.out]
                      exact ExitTwo_of
        · have hpd : decide (l.length ≤ p') = true := decide_eq_true (by omega)
          have hb := Lib.hid (show R = .ok (qs, p') from by rw [hr2.out, List.drop_of_length_le (by omega), wordP_nil])
          clear hr2 hg2 hsp
          go_wp2_with fail
          go_quiet (fail)
          all_goals
            have HI8 := Lib.hid (HI2.out.drewN nq)
            generalize wc.drewN nq = W8 at *
            go_wp2_with fail
            go_step3
            simp only [Exit.then]
            show Code.wp Tryd.prog _ (Exit.noGoto _) _ _
            rw [hb.out]
            refine wp_of_frame (rb := rb) (q := q) (v := .slice a2 n2' c2) rfl fun us' => ?_
            exact wp_seq (wp_skip (word_end rb l a0 N c0 xs q w W8 p' qs a2 n2' c2 us' HO.out HRB.out HL.out hN hqp2 HI8.out _ rfl))
  · intro hpass
    go_wp2
    go_step3
    simp only [Exit.then]
    rename_i hK
    refine hK _ _ ?_
    refine hpass (l.length + 1) _ _ ⟨q, [], none, 0, 0, by omega, Nat.le_refl _, WordAct_intro rfl, HI0.out, Lib.hid HQ.out.symm⟩

end Go.Proofs.YtfgbbmnmblchiaaDoor
