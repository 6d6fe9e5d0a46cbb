/-
  VmSteps, walked.
-/
import Derived.Test.YtocjdbenelikpaaStepsP
import Derived.Test.YtocjdbenelikpaaLoad
import Derived.Test.YtocjdbenelikpaaAwake
import Derived.Deep.LoopGhost
import Derived.Deep.DeepCutAuto
import Derived.Deep.CutBlock
namespace Go.Proofs.Ytocjdbenelikpaa
open Go.RowKit
set_option linter.unusedVariables false
set_option linter.unusedSimpArgs false
set_option linter.unnecessarySimpa false

/-- both machines, and that nothing else has turned. -/
structure Two (w wr : World) (mb1 cb1 co1 cc1 mb2 cb2 co2 cc2 : Nat) (mF m1 : Vm.M) : Prop where
  m : MachAt wr mb1 cb1 co1 cc1 mF
  k : MachAt wr mb2 cb2 co2 cc2 m1
  chg : Chg [] w wr

theorem conv_load (w : World) (g : Option Addr) (k c : Nat) (bs : List UInt8) (hk : bs.length = k) (h : SrcAt w g (bs.map byteV)) :
    (convert 26 9 (.slice g k c)).run Try.prog w = .ok (.string ⟨bs.toArray⟩) w := by
  have := run_conv_string (P := Try.prog) w 26 9 5 Try.underlying26 Try.underlying5 Try.underlying9 g c bs h
  rw [hk] at this
  exact this

set_option maxHeartbeats 4000000 in
set_option maxRecDepth 100000 in
theorem steps_good (w : World) (a : Option Addr) (len cap : Nat) (bs : List UInt8) (h : Bytes w a len cap bs) (hv : validB bs = true) (f0 : Int) (ap : Option Addr) (np cp : Nat) (ps : List Int) (hps : ps.length = np) (hpc : np ≤ cp ∧ cp ≤ maxLen) (hsrc : SrcAt w ap (ps.map (Value.int .i64))) :
    Calls Try.prog 8 #[.slice a len cap, .int .i64 f0, .slice ap np cp] w fun e w' => e = .returned (.bool true) ∧ Chg [] w w' := by
  obtain ⟨F, hF⟩ : ∃ F : Nat, f0 % 2048 = (F : Int) := ⟨(f0 % 2048).toNat, by omega⟩
  have hF2 : F < 2048 := by omega
  have b2 : bits .and .i64 f0 2047 = (F : Int) := by rw [i64_and2047, hF]
  have hpc2 : np ≤ 9223372036854775807 := by have := hpc; unfold maxLen at this; omega
  have H := Lib.hid h
  have HV := Lib.hid hv
  have HS := Lib.hid hsrc
  clear h hv hsrc hF
  go_enter Try.func8, Try.ntmps8
  go_wp2_with fail
  refine (new_good w a len cap bs H.out HV.out).mono ?_
  rintro e w1 ⟨mb1, cb1, co1, cc1, rfl, hm1, hg, hc1, hmb1, hcb1⟩
  have HM1 := Lib.hid hm1
  have HC1 := Lib.hid hc1
  have HG := Lib.hid hg
  clear hm1 hc1 hg
  go_wp2_with fail
  refine (new_good w1 a len cap bs (H.out.kept0 HC1.out) HV.out).mono ?_
  rintro e w2 ⟨mb2, cb2, co2, cc2, rfl, hm2, _, hc2, hmb2, hcb2⟩
  have HM2 := Lib.hid hm2
  have HM1' := Lib.hid (HM1.out.kept0 hc2)
  have HC2 := Lib.hid (HC1.out.then0 hc2)
  have hlt1 := lt_of_obj HM1.out.obj
  have hltc1 := World.block_lt_of_cell? w1 _ (HM1.out.code 0 (by have := HM1.out.n1; omega))
  have HNE : Hid (mb1 ≠ mb2 ∧ mb1 ≠ cb2 ∧ mb2 ≠ cb1) := Lib.hid ⟨by omega, by omega, by simp at hltc1; omega⟩
  have hmb2' : w.heap.size ≤ mb2 := by have := HC1.out.size; omega
  clear hm2 hc2 HM1 HC1 hlt1 hltc1
  go_wp2_with fail
  refine (run_any w2 mb1 cb1 co1 cc1 _ HM1'.out HG.out rfl F (by omega)).mono ?_
  rintro e w3 ⟨rfl, hm3, hc3⟩
  obtain ⟨-, -, hle, -⟩ := Vm.go_more F 0 (Vm.ofImage bs)
  have hfst : (Vm.fin (Vm.go F (Vm.ofImage bs))).1 = (Vm.go F (Vm.ofImage bs)).1 := by unfold Vm.fin; split <;> (try split) <;> rfl
  rw [← hfst] at hle
  obtain ⟨n, s, mF, hq⟩ : ∃ n s mF, Vm.fin (Vm.go F (Vm.ofImage bs)) = (n, s, mF) := ⟨_, _, _, rfl⟩
  rw [hq] at hm3 hle
  have HQ := Lib.hid hq
  rw [hq]
  dsimp only at hm3 hle ⊢
  have h2 : Two w w3 mb1 cb1 co1 cc1 mb2 cb2 co2 cc2 mF (Vm.ofImage bs) :=
    ⟨hm3, HM2.out.kept hc3 (by have := HNE.out; simp; omega) (by have := HNE.out; simp; omega), HC2.out.trans hc3 (fun z hz => .inr (by simp at hz; omega))⟩
  have H2 := Lib.hid h2
  clear h2 hm3 hc3 hq hfst HM2 HM1' HC2 b2
  go_upto_block 0 with fail
  go_cut [14, 15] (fun v14 v15 wc => v14 = .int .i64 n ∧ v15 = .int .i64 s ∧ Two w wc mb1 cb1 co1 cc1 mb2 cb2 co2 cc2 mF mF)
  case first =>
    go_wp2_with fail
    go_loopg [13, 14, 15, 16] (np + 1) (fun g v13 v14 v15 v16 wr => ∃ i left u : Nat, ∃ (m1 : Vm.M) (tt : Int), i + g = np + 1 ∧ i ≤ np ∧ left + u = F ∧ v13 = .int .i64 left ∧ v14 = .int .i64 u ∧ v15 = .int .i64 tt ∧ v16 = .int .i64 i ∧
      Two w wr mb1 cb1 co1 cc1 mb2 cb2 co2 cc2 mF m1 ∧ m1.stopped = 0 ∧ Hid (Vm.Good m1) ∧ Hid (Vm.go F (Vm.ofImage bs) = ((Vm.go left m1).1 + u, (Vm.go left m1).2)))
    case atStart => exact ⟨0, F, 0, Vm.ofImage bs, 0, by omega, by omega, by omega, rfl, rfl, rfl, rfl, H2.out, rfl, HG, Lib.hid rfl⟩
    case round =>
      obtain ⟨i, left, u, m1, tt, hi, hin, hlu, rfl, rfl, rfl, rfl, ht, hst, HGD, HGO⟩ := hrel
      have HT := Lib.hid ht
      clear ht
      cases gk with
      | zero => exact absurd hi (by omega)
      | succ g =>
        have hl0 : (0 : Int) ≤ (left : Int) := by omega
        by_cases hi2 : i < np
        · have hi3 : (i : Int) < (np : Int) := by omega
          have hi4 : (0 : Int) ≤ (i : Int) := by omega
          obtain ⟨b, off, rfl, hb⟩ := HS.out (by intro e; simp at e; subst e; simp at hps; omega)
          have hcell := HT.out.chg.cell (hb i _ (by rw [List.getElem?_map, List.getElem?_eq_getElem (show i < ps.length by omega)]; rfl)) (by simp)
          obtain ⟨z0, hz0⟩ : ∃ z0, ps[i]'(show i < ps.length by omega) = z0 := ⟨_, rfl⟩
          rw [hz0] at hcell
          obtain ⟨z, hz⟩ : ∃ z : Nat, z0 % 64 = (z : Int) := ⟨(z0 % 64).toNat, by omega⟩
          have hz2 : z < 64 := by omega
          have hb63 : bits .and .i64 z0 63 = (z : Int) := by rw [i64_and63, hz]
          clear hz0 hz hb
          by_cases hle2 : left ≤ z
          · have hle3 : (left : Int) ≤ (z : Int) := by omega
            have hk : left ≤ left := Nat.le_refl _
            go_wp2_with fail
            refine (run_any wr mb2 cb2 co2 cc2 m1 HT.out.k HGD.out hst left (by omega)).mono ?_
            rintro e w4 ⟨rfl, hm4, hc4⟩
            obtain ⟨p1, p2, p3⟩ := Vm.part F left left u (Vm.ofImage bs) m1 hk HGO.out
            obtain ⟨kg, ks⟩ := Vm.go_keep left m1 HGD.out
            obtain ⟨q, hq⟩ : ∃ q, Vm.go left m1 = q := ⟨_, rfl⟩
            rw [hq] at hm4 p1 p2 p3 kg ks
            rw [hq]
            obtain ⟨u1, s1, m2⟩ := q
            obtain ⟨q, hq2⟩ : ∃ q, Vm.fin (u1, s1, m2) = q := ⟨_, rfl⟩
            rw [hq2] at hm4 p1 p2 p3
            rw [hq2]
            obtain ⟨u', s', m'⟩ := q
            dsimp only at hm4 p1 p2 p3 kg ks ⊢
            have ht4 : Two w w4 mb1 cb1 co1 cc1 mb2 cb2 co2 cc2 mF m' :=
              ⟨HT.out.m.kept hc4 (by have := HNE.out; simp; omega) (by have := HNE.out; simp; omega), hm4, HT.out.chg.trans hc4 (fun z hz => .inr (by simp at hz; omega))⟩
            have HT4 := Lib.hid ht4
            have P1 := Lib.hid p1
            have P2 := Lib.hid p2
            have KG := Lib.hid kg
            have KS := Lib.hid ks
            have HQ2 := Lib.hid hq2
            clear hm4 hc4 ht4 p1 p2 kg ks hq hq2
            by_cases hs : s' = 1
            · subst hs
              obtain ⟨j0, j1, j2, j3⟩ := P1.out rfl
              have j1' := j1.symm
              subst j1'
              have J3 := Lib.hid j3
              have J0 := Lib.hid j0
              have J2 := Lib.hid j2
              clear j3 j0 j2
              by_cases h0 : left - left = 0
              · have h0i : (left : Int) - (left : Int) = 0 := by omega
                have hfinal : Vm.fin (Vm.go F (Vm.ofImage bs)) = (u + left, 1, m') := by
                  rw [J3.out, h0, Vm.go_zero']
                  unfold Vm.fin
                  rw [if_pos rfl, J2.out]
                  simp
                rw [HQ.out] at hfinal
                simp only [Prod.mk.injEq] at hfinal
                obtain ⟨e1, e2, e3⟩ := hfinal
                have E := Lib.hid (And.intro e1 (And.intro e2 e3))
                clear e1 e2 e3
                go_wp2
                all_goals
                  go_meet
                  case rel =>
                    refine ⟨?_, ?_, ?_⟩
                    · rw [E.out.1]; go_num
                    · rw [E.out.2.1]
                    · have h := HT4.out; rw [← E.out.2.2] at h; exact h
              · have h0i : ¬ ((left : Int) - (left : Int) = 0) := by omega
                have h0b : (((left : Int) - (left : Int)) == 0) = false := by simpa using h0i
                exact absurd h0 (by omega)
            · have hsb : (s' == 1) = false := by simpa using hs
              have hfinal := P2.out hs
              rw [HQ.out] at hfinal
              simp only [Prod.mk.injEq] at hfinal
              obtain ⟨e1, e2, e3⟩ := hfinal
              have E := Lib.hid (And.intro e1 (And.intro e2 e3))
              clear e1 e2 e3
              go_wp2
              all_goals
                go_meet
                case rel =>
                  refine ⟨?_, ?_, ?_⟩
                  · rw [E.out.1]; go_num
                  · rw [E.out.2.1]
                  · have h := HT4.out; rw [← E.out.2.2] at h; exact h
          · have hle3 : (z : Int) < (left : Int) := by omega
            have hk : z ≤ left := (by omega)
            go_wp2_with fail
            refine (run_any wr mb2 cb2 co2 cc2 m1 HT.out.k HGD.out hst z (by omega)).mono ?_
            rintro e w4 ⟨rfl, hm4, hc4⟩
            obtain ⟨p1, p2, p3⟩ := Vm.part F z left u (Vm.ofImage bs) m1 hk HGO.out
            obtain ⟨kg, ks⟩ := Vm.go_keep z m1 HGD.out
            obtain ⟨q, hq⟩ : ∃ q, Vm.go z m1 = q := ⟨_, rfl⟩
            rw [hq] at hm4 p1 p2 p3 kg ks
            rw [hq]
            obtain ⟨u1, s1, m2⟩ := q
            obtain ⟨q, hq2⟩ : ∃ q, Vm.fin (u1, s1, m2) = q := ⟨_, rfl⟩
            rw [hq2] at hm4 p1 p2 p3
            rw [hq2]
            obtain ⟨u', s', m'⟩ := q
            dsimp only at hm4 p1 p2 p3 kg ks ⊢
            have ht4 : Two w w4 mb1 cb1 co1 cc1 mb2 cb2 co2 cc2 mF m' :=
              ⟨HT.out.m.kept hc4 (by have := HNE.out; simp; omega) (by have := HNE.out; simp; omega), hm4, HT.out.chg.trans hc4 (fun z hz => .inr (by simp at hz; omega))⟩
            have HT4 := Lib.hid ht4
            have P1 := Lib.hid p1
            have P2 := Lib.hid p2
            have KG := Lib.hid kg
            have KS := Lib.hid ks
            have HQ2 := Lib.hid hq2
            clear hm4 hc4 ht4 p1 p2 kg ks hq hq2
            by_cases hs : s' = 1
            · subst hs
              obtain ⟨j0, j1, j2, j3⟩ := P1.out rfl
              have j1' := j1.symm
              subst j1'
              have J3 := Lib.hid j3
              have J0 := Lib.hid j0
              have J2 := Lib.hid j2
              clear j3 j0 j2
              by_cases h0 : left - z = 0
              · have h0i : (left : Int) - (z : Int) = 0 := by omega
                have hfinal : Vm.fin (Vm.go F (Vm.ofImage bs)) = (u + z, 1, m') := by
                  rw [J3.out, h0, Vm.go_zero']
                  unfold Vm.fin
                  rw [if_pos rfl, J2.out]
                  simp
                rw [HQ.out] at hfinal
                simp only [Prod.mk.injEq] at hfinal
                obtain ⟨e1, e2, e3⟩ := hfinal
                have E := Lib.hid (And.intro e1 (And.intro e2 e3))
                clear e1 e2 e3
                go_wp2
                all_goals
                  go_meet
                  case rel =>
                    refine ⟨?_, ?_, ?_⟩
                    · rw [E.out.1]; go_num
                    · rw [E.out.2.1]
                    · have h := HT4.out; rw [← E.out.2.2] at h; exact h
              · have h0i : ¬ ((left : Int) - (z : Int) = 0) := by omega
                have h0b : (((left : Int) - (z : Int)) == 0) = false := by simpa using h0i
                go_wp2
                all_goals
                  go_roundg g
                  case measure => omega
                  case rel =>
                    exact ⟨i + 1, left - z, u + z, m', 1, by omega, by omega, by omega, by go_num, by go_num, rfl, by go_num, HT4.out, by rw [J2.out]; rw [KS.out]; exact hst, Lib.hid (by rw [J2.out]; exact KG.out), Lib.hid (by rw [J3.out, J2.out])⟩
            · have hsb : (s' == 1) = false := by simpa using hs
              have hfinal := P2.out hs
              rw [HQ.out] at hfinal
              simp only [Prod.mk.injEq] at hfinal
              obtain ⟨e1, e2, e3⟩ := hfinal
              have E := Lib.hid (And.intro e1 (And.intro e2 e3))
              clear e1 e2 e3
              go_wp2
              all_goals
                go_meet
                case rel =>
                  refine ⟨?_, ?_, ?_⟩
                  · rw [E.out.1]; go_num
                  · rw [E.out.2.1]
                  · have h := HT4.out; rw [← E.out.2.2] at h; exact h
        · have hi3 : ¬ ((i : Int) < (np : Int)) := by omega
          have hk : left ≤ left := Nat.le_refl _
          go_wp2_with fail
          refine (run_any wr mb2 cb2 co2 cc2 m1 HT.out.k HGD.out hst left (by omega)).mono ?_
          rintro e w4 ⟨rfl, hm4, hc4⟩
          obtain ⟨p1, p2, p3⟩ := Vm.part F left left u (Vm.ofImage bs) m1 hk HGO.out
          obtain ⟨kg, ks⟩ := Vm.go_keep left m1 HGD.out
          obtain ⟨q, hq⟩ : ∃ q, Vm.go left m1 = q := ⟨_, rfl⟩
          rw [hq] at hm4 p1 p2 p3 kg ks
          rw [hq]
          obtain ⟨u1, s1, m2⟩ := q
          obtain ⟨q, hq2⟩ : ∃ q, Vm.fin (u1, s1, m2) = q := ⟨_, rfl⟩
          rw [hq2] at hm4 p1 p2 p3
          rw [hq2]
          obtain ⟨u', s', m'⟩ := q
          dsimp only at hm4 p1 p2 p3 kg ks ⊢
          have ht4 : Two w w4 mb1 cb1 co1 cc1 mb2 cb2 co2 cc2 mF m' :=
            ⟨HT.out.m.kept hc4 (by have := HNE.out; simp; omega) (by have := HNE.out; simp; omega), hm4, HT.out.chg.trans hc4 (fun z hz => .inr (by simp at hz; omega))⟩
          have HT4 := Lib.hid ht4
          have P1 := Lib.hid p1
          have P2 := Lib.hid p2
          have KG := Lib.hid kg
          have KS := Lib.hid ks
          have HQ2 := Lib.hid hq2
          clear hm4 hc4 ht4 p1 p2 kg ks hq hq2
          by_cases hs : s' = 1
          · subst hs
            obtain ⟨j0, j1, j2, j3⟩ := P1.out rfl
            have j1' := j1.symm
            subst j1'
            have J3 := Lib.hid j3
            have J0 := Lib.hid j0
            have J2 := Lib.hid j2
            clear j3 j0 j2
            by_cases h0 : left - left = 0
            · have h0i : (left : Int) - (left : Int) = 0 := by omega
              have hfinal : Vm.fin (Vm.go F (Vm.ofImage bs)) = (u + left, 1, m') := by
                rw [J3.out, h0, Vm.go_zero']
                unfold Vm.fin
                rw [if_pos rfl, J2.out]
                simp
              rw [HQ.out] at hfinal
              simp only [Prod.mk.injEq] at hfinal
              obtain ⟨e1, e2, e3⟩ := hfinal
              have E := Lib.hid (And.intro e1 (And.intro e2 e3))
              clear e1 e2 e3
              go_wp2
              all_goals
                go_meet
                case rel =>
                  refine ⟨?_, ?_, ?_⟩
                  · rw [E.out.1]; go_num
                  · rw [E.out.2.1]
                  · have h := HT4.out; rw [← E.out.2.2] at h; exact h
            · have h0i : ¬ ((left : Int) - (left : Int) = 0) := by omega
              have h0b : (((left : Int) - (left : Int)) == 0) = false := by simpa using h0i
              exact absurd h0 (by omega)
          · have hsb : (s' == 1) = false := by simpa using hs
            have hfinal := P2.out hs
            rw [HQ.out] at hfinal
            simp only [Prod.mk.injEq] at hfinal
            obtain ⟨e1, e2, e3⟩ := hfinal
            have E := Lib.hid (And.intro e1 (And.intro e2 e3))
            clear e1 e2 e3
            go_wp2
            all_goals
              go_meet
              case rel =>
                refine ⟨?_, ?_, ?_⟩
                · rw [E.out.1]; go_num
                · rw [E.out.2.1]
                · have h := HT4.out; rw [← E.out.2.2] at h; exact h
  case rest =>
    obtain ⟨rfl, rfl, ht⟩ := hcut
    have HT := Lib.hid ht
    clear ht H2
    go_wp2_with fail
    try rw [decide_eq_false (show ¬ F < n by omega)]
    go_loopg [20] 8 (fun g vi wr => ∃ i : Nat, i + g = 8 ∧ vi = .int .i64 i ∧ Two w wr mb1 cb1 co1 cc1 mb2 cb2 co2 cc2 mF mF)
    case atStart => exact ⟨0, by omega, rfl, HT.out⟩
    case round =>
      obtain ⟨i, hi, rfl, ht⟩ := hrel
      clear HT hle
      have HT := Lib.hid ht
      clear ht
      cases gk with
      | succ g =>
        have hi8 : i < 8 := by omega
        have hi8' : (i : Int) < 8 := by omega
        go_wp2_with fail
        refine (reg_in wr mb1 cb1 co1 cc1 _ HT.out.m i hi8).mono ?_
        rintro e w5 ⟨rfl, rfl⟩
        go_wp2_with fail
        refine (reg_in wr mb2 cb2 co2 cc2 _ HT.out.k i hi8).mono ?_
        rintro e w5 ⟨rfl, rfl⟩
        generalize Vm.reg mF i = V
        go_wp2
        all_goals
          go_roundg g
          case measure => omega
          case rel => exact ⟨i + 1, by omega, by go_num, HT.out⟩
      | zero =>
        have hi8 : i = 8 := by omega
        subst hi8
        go_wp2_with fail
        refine (load_in wr mb1 cb1 co1 cc1 _ HT.out.m 0 1024 (by omega)).mono ?_
        rintro e w5 ⟨g1, rfl, hr1, hc1, -⟩
        have HM5 := Lib.hid (HT.out.k.kept0 hc1)
        have HM5' := Lib.hid (HT.out.m.kept0 hc1)
        have HC5 := Lib.hid (HT.out.chg.then0 hc1)
        have hs1 := hr1.src
        have hml : ((mF.mem.drop 0).take 1024).length = 1024 := by have := HT.out.m.m1k; simp [this]
        have S1 := Lib.hid hs1
        clear hr1 hc1 HT hs1
        go_wp2_with fail
        refine (load_in w5 mb2 cb2 co2 cc2 _ HM5.out 0 1024 (by omega)).mono ?_
        rintro e w6 ⟨g2, rfl, hr2, hc2, -⟩
        have HM6 := Lib.hid (HM5.out.kept0 hc2)
        have HM6' := Lib.hid (HM5'.out.kept0 hc2)
        have HC6 := Lib.hid (HC5.out.then0 hc2)
        have k1 := conv_load w6 g1 1024 1024 _ hml (S1.out.kept0 hc2)
        have k2 := conv_load w6 g2 1024 1024 _ hml hr2.src
        clear hr2 hc2 HM5 HM5' HC5 S1
        generalize (⟨((mF.mem.drop 0).take 1024).toArray⟩ : ByteArray) = S at *
        go_wp2_with fail
        refine (pc_any w6 mb1 cb1 co1 cc1 _ HM6'.out).mono ?_
        rintro e w7 ⟨rfl, rfl⟩
        go_wp2_with fail
        refine (pc_any w6 mb2 cb2 co2 cc2 _ HM6.out).mono ?_
        rintro e w7 ⟨rfl, rfl⟩
        go_wp2_with (go_at_call 16; refine (awake_any _).mono ?_; rintro e w9 ⟨rfl, h9⟩)
        all_goals
          go_ret
          exact ⟨rfl, HC6.out.then0 h9⟩

set_option maxHeartbeats 4000000 in
set_option maxRecDepth 100000 in
theorem steps_bad (w : World) (a : Option Addr) (len cap : Nat) (bs : List UInt8) (h : Bytes w a len cap bs) (hv : validB bs = false) (f0 : Int) (ap : Option Addr) (np cp : Nat) :
    Calls Try.prog 8 #[.slice a len cap, .int .i64 f0, .slice ap np cp] w fun e w' => e = .returned (.bool true) ∧ Chg [] w w' := by
  have H := Lib.hid h
  have HV := Lib.hid hv
  clear h hv
  go_enter Try.func8, Try.ntmps8
  go_wp2_with fail
  refine (new_bad w a len cap bs H.out HV.out).mono ?_
  rintro e w1 ⟨rfl, hc1⟩
  have HC1 := Lib.hid hc1
  clear hc1
  go_wp2_with fail
  refine (new_bad w1 a len cap bs (H.out.kept0 HC1.out) HV.out).mono ?_
  rintro e w2 ⟨rfl, hc2⟩
  have HC2 := Lib.hid (HC1.out.then0 hc2)
  clear hc2 HC1
  go_wp2_with (go_at_call 16; refine (awake_any _).mono ?_; rintro e w9 ⟨rfl, h9⟩)
  all_goals
    go_ret
    exact ⟨rfl, HC2.out.then0 h9⟩

end Go.Proofs.Ytocjdbenelikpaa
