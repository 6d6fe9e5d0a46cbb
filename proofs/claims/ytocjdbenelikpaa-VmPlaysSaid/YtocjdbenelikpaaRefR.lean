/-
  The document's Run, walked.
-/
import Derived.Test.YtocjdbenelikpaaRefS
import Derived.Test.YtocjdbenelikpaaRefW
import Derived.Deep.LoopGhost
import Derived.Deep.RegionHeld3
namespace Go.Proofs.Ytocjdbenelikpaa
open Go.RowKit
set_option linter.unusedVariables false
set_option linter.unusedSimpArgs false

theorem Vm.op_stop2 (c x y k : Nat) (m : Vm.M) (hc : 2 ≤ c) : (Vm.op c x y k m).1 = 0 ∨ (Vm.op c x y k m).1 = 4 := by
  match c, hc with
  | 0, h => omega
  | 1, h => omega
  | c + 2, _ =>
    unfold Vm.op Vm.setR Vm.setM
    dsimp only
    split <;> first | omega | (split <;> simp) | simp

theorem step_ok (w : World) (rb : Nat) (m : Vm.M) (h : RefAt w rb m) (c x y k : Nat) (hc : 2 ≤ c ∧ c < 22) (hx : x < 8) (hy : y < 8) (hk : k < 256) (hp : 0 ≤ m.pc ∧ m.pc ≤ 256) (h0 : (Vm.op c x y k m).1 = 0) :
    Calls Try.prog 40 #[.pointer (some ⟨rb, 0, none⟩), .int .u8 c, .int .u8 x, .int .u8 y, .int .i64 k] w fun e w' => e = .returned (.bool true) ∧ RefAt w' rb (Vm.next (Vm.op c x y k m).2) ∧ Chg [rb] w w' :=
  (step_ref w rb m h c x y k hc hx hy hk hp).mono fun e w' hq => ⟨(hq.1 h0).1, (hq.1 h0).2, hq.2.2⟩
theorem step_no (w : World) (rb : Nat) (m : Vm.M) (h : RefAt w rb m) (c x y k : Nat) (hc : 2 ≤ c ∧ c < 22) (hx : x < 8) (hy : y < 8) (hk : k < 256) (hp : 0 ≤ m.pc ∧ m.pc ≤ 256) (h0 : (Vm.op c x y k m).1 = 4) :
    Calls Try.prog 40 #[.pointer (some ⟨rb, 0, none⟩), .int .u8 c, .int .u8 x, .int .u8 y, .int .i64 k] w fun e w' => e = .returned (.bool false) ∧ RefAt w' rb (Vm.op c x y k m).2 ∧ Chg [rb] w w' :=
  (step_ref w rb m h c x y k hc hx hy hk hp).mono fun e w' hq => ⟨(hq.2.1 (by omega)).1, (hq.2.1 (by omega)).2, hq.2.2⟩

/-- what a run leaves. -/
def RefRunPost (w : World) (rb : Nat) (q : Nat × Int × Vm.M) : Ending → World → Prop := fun e w' =>
  e = .returned (.tuple #[.int .i64 (q.1 : Int), .int .i64 q.2.1]) ∧ RefAt w' rb q.2.2 ∧ Chg [rb] w w'

set_option maxHeartbeats 20000000 in
set_option maxRecDepth 100000 in
theorem ref_run (w : World) (rb : Nat) (m : Vm.M) (h : RefAt w rb m) (hg : Vm.Good m) (hs : m.stopped = 0) (F : Nat) (hF : F < 9223372036854775807) :
    Calls Try.prog 26 #[.pointer (some ⟨rb, 0, none⟩), .int .i64 (F : Int)] w (RefRunPost w rb (Vm.fin (Vm.go F m))) := by
  have H := Lib.hid h
  have HG := Lib.hid hg
  have hF0 : (0 : Int) ≤ (F : Int) := by omega
  clear h hg
  go_enter Try.func26, Try.ntmps26
  go_wp2_with fail
  go_loopg [6] (F + 1) (fun g v6 wr => ∃ (u left : Nat) (m1 : Vm.M), u + left = F ∧ left + 1 = g ∧ v6 = .int .i64 u ∧ RefAt wr rb m1 ∧ Chg [rb] w wr ∧ m1.stopped = 0 ∧ Hid (Vm.Good m1) ∧ Hid (Vm.go F m = ((Vm.go left m1).1 + u, (Vm.go left m1).2)))
  case atStart => exact ⟨0, F, m, by omega, by omega, rfl, H.out, Chg.refl _ _, hs, HG, Lib.hid rfl⟩
  case round =>
    obtain ⟨u, left, m1, hul, hg1, rfl, hr, hch, hst, HGD, HGO⟩ := hrel
    have HR := Lib.hid hr
    have HCH := Lib.hid hch
    clear hr hch
    cases gk with
    | zero => exact absurd hg1 (by omega)
    | succ g =>
      have cst := HR.out.stopped
      rw [hst] at cst
      have fst := HR.out.free 12
      cases left with
      | zero =>
        obtain rfl : u = F := by omega
        have e : Vm.fin (Vm.go u m) = (u, 1, m1) := by rw [HGO.out]; simp [Vm.go, Vm.fin]
        have HE := Lib.hid e
        clear e
        go_wp2
        go_ret2
        rw [HE.out]
        exact ⟨rfl, HR.out, HCH.out⟩
      | succ left =>
        have hu2 : (u : Int) < (F : Int) := by omega
        obtain ⟨p, hp⟩ : ∃ p : Nat, m1.pc = (p : Int) := ⟨m1.pc.toNat, by have := HGD.out.pc.1; omega⟩
        have cpc := HR.out.pc
        have cn := HR.out.n
        have ccode := HR.out.code
        have fpc := HR.out.free 11
        rw [hp] at cpc
        have hn1 := HR.out.n1
        have hpn : p ≤ m1.n := by have := HGD.out.pc.2; omega
        have hclen := HR.out.len
        obtain ⟨n, hnn⟩ : ∃ n, m1.n = n := ⟨_, rfl⟩
        rw [hnn] at cn hn1 hpn hclen
        by_cases hpc : n ≤ p
        · have hpi : (n : Int) ≤ (p : Int) := by omega
          have e : Vm.fin (Vm.go F m) = (u, 4, { m1 with stopped := 4 }) := by
            rw [HGO.out, Vm.go_succ, if_pos (by rw [hp, hnn]; omega)]
            simp [Vm.fin]
          have HE := Lib.hid e
          clear e hp hnn
          go_wp2_with fail
          go_region
          all_goals
            go_wp2
            go_ret2
            rw [HE.out]
            exact ⟨rfl, HR.out.drew.setStopped 4, HCH.out.drew.setCell _ _ (by simp)⟩
        · have hpi : (p : Int) < (n : Int) := by omega
          obtain ⟨B, hB, hBs, hc0, hc1, hc2, hc3⟩ := four m1.code (4 * p) (by omega)
          have hsz := strB_size m1.code
          have hb := HGD.out.code p (by omega)
          have hstep : Vm.step m1 = Vm.op (m1.code.getD (4 * p) 0).toNat (m1.code.getD (4 * p + 1) 0).toNat (m1.code.getD (4 * p + 2) 0).toNat (m1.code.getD (4 * p + 3) 0).toNat m1 := by
            unfold Vm.step Vm.at_; rw [hp]; rfl
          have hgo : Vm.go (left + 1) m1 = (if (Vm.step m1).1 = 4 then (0, 4, (Vm.step m1).2) else if (Vm.step m1).1 = 2 then (1, 2, (Vm.step m1).2) else
              if (Vm.step m1).1 = 0 then ((Vm.go left (Vm.next (Vm.step m1).2)).1 + 1, (Vm.go left (Vm.next (Vm.step m1).2)).2) else (1, (Vm.step m1).1, Vm.next (Vm.step m1).2)) := by
            rw [Vm.go_succ, if_neg (by rw [hp, hnn]; omega)]
          have hgn : (Vm.step m1).1 = 0 ∨ (Vm.step m1).1 = 3 → Vm.Good (Vm.next (Vm.step m1).2) := fun hq => Vm.good_next HGD.out (by rw [hp, hnn]; omega) hq
          have l3 := UInt8.toNat_lt (m1.code.getD (4 * p + 3) 0)
          have l0 := UInt8.toNat_lt (m1.code.getD (4 * p) 0)
          rw [hstep] at hgo hgn
          clear hstep
          generalize (m1.code.getD (4 * p) 0).toNat = c at *
          generalize (m1.code.getD (4 * p + 1) 0).toNat = x at *
          generalize (m1.code.getD (4 * p + 2) 0).toNat = y at *
          generalize (m1.code.getD (4 * p + 3) 0).toNat = k at *
          obtain ⟨b0, b1, b2, _⟩ := hb
          have q1 : (4 : Int) * (p : Int) ≤ 4 * (p : Int) + 4 := by omega
          have q2 : (4 : Int) * (p : Int) + 4 ≤ ((strB m1.code).size : Int) := by omega
          have q3 : (4 : Int) * (p : Int) + 4 ≤ (m1.code.length : Int) := by omega
          have q4 : ((4 : Int) * (p : Int)).toNat = 4 * p := by omega
          have q5 : ((4 : Int) * (p : Int) + 4).toNat = 4 * p + 4 := by omega
          have q6 : IntKind.i64.wrap ((4 : Int) * (p : Int)) = 4 * (p : Int) := by rw [IntKind.wrap_i64]; omega
          have q7 : IntKind.i64.wrap ((4 : Int) * (p : Int) + 4) = 4 * (p : Int) + 4 := by rw [IntKind.wrap_i64]; omega
          have q8 : (0 : Int) ≤ 4 * (p : Int) := by omega
          have HGN := Lib.hid hgn
          have HGO2 := Lib.hid hgo
          have HP := Lib.hid hp
          have HNN := Lib.hid hnn
          clear hgn hgo hp hnn hclen
          go_wp2_with fail
          go_region
          go_wp2_with fail
          go_region
          have HRD := Lib.hid HR.out.drew.drew
          have HCD := Lib.hid HCH.out.drew.drew
          by_cases hz0 : c = 0
          · subst hz0
            have e0 : Vm.op 0 x y k m1 = (2, m1) := rfl
            rw [e0] at HGO2
            have e : Vm.fin (Vm.go F m) = (u + 1, 2, { m1 with stopped := 2 }) := by
              rw [HGO.out, HGO2.out]
              simp [Vm.fin, Nat.add_comm]
            have HE := Lib.hid e
            clear e e0
            go_wp2
            go_ret2
            rw [HE.out]
            exact ⟨by go_num, HRD.out.setStopped 2, HCD.out.setCell _ _ (by simp)⟩
          · have z0 : ((c : Int) == 0) = false := by simpa using hz0
            by_cases hz1 : c = 1
            · subst hz1
              have e0 : Vm.op 1 x y k m1 = (3, m1) := rfl
              rw [e0] at HGO2
              have e : Vm.fin (Vm.go F m) = (u + 1, 3, Vm.next m1) := by
                rw [HGO.out, HGO2.out]
                simp [Vm.fin, Nat.add_comm]
              have HE := Lib.hid e
              clear e e0
              go_wp2
              go_ret2
              rw [HE.out]
              have hq := HRD.out.setPc ((p : Int) + 1)
              refine ⟨by go_num, ?_, HCD.out.setCell _ _ (by simp)⟩
              unfold Vm.next
              rw [HP.out]
              exact hq
            · have z1 : ((c : Int) == 1) = false := by simp; omega
              have hp256 : 0 ≤ m1.pc ∧ m1.pc ≤ 256 := by rw [HP.out]; omega
              have hs4 := Vm.op_stop2 c x y k m1 (by omega)
              have wk : IntKind.i64.wrap (k : Int) = (k : Int) := by rw [IntKind.wrap_i64]; omega
              clear cst fst cpc cn ccode fpc hB hsz q1 q2 q3 q4 q5 q6 q7 q8 hpc hpi hpn hn1 HP HNN HCH HR hF0 H HG
              go_wp2_with fail
              rcases hs4 with h4 | h4
              · go_region_with ((go_at_call 40; refine (step_ok _ rb m1 HRD.out.drew c x y k (by omega) b1 b2 l3 hp256 h4).mono ?_; rintro e w3 ⟨rfl, hr3, hc3⟩))
                all_goals
                  have HR3 := Lib.hid hr3
                  have HC3 : Hid (Chg [rb] w w3) := Lib.hid (HCD.out.drew.trans hc3 (by simp))
                  clear hr3 hc3
                  have hst2 := (Vm.op_code c x y k m1).2.2
                  have hgo2 : Vm.go F m = ((Vm.go left (Vm.next (Vm.op c x y k m1).2)).1 + (u + 1), (Vm.go left (Vm.next (Vm.op c x y k m1).2)).2) := by
                    rw [HGO.out, HGO2.out, if_neg (by omega), if_neg (by omega), if_pos h4]
                    simp only [Prod.mk.injEq, and_true]
                    omega
                  have HG2 := Lib.hid hgo2
                  have HS2 := Lib.hid (hst2.trans hst)
                  have HGG := Lib.hid (HGN.out (Or.inl h4))
                  clear hgo2 hst2
                  go_wp2
                  go_roundg g
                  case measure => omega
                  case rel =>
                    go_light
                    exact ⟨u + 1, left, Vm.next (Vm.op c x y k m1).2, by omega, by omega, by go_num, HR3.out, HC3.out, HS2.out, HGG, HG2⟩
              · go_region_with ((go_at_call 40; refine (step_no _ rb m1 HRD.out.drew c x y k (by omega) b1 b2 l3 hp256 h4).mono ?_; rintro e w3 ⟨rfl, hr3, hc3⟩))
                all_goals
                  have HR3 := Lib.hid hr3
                  have HC3 : Hid (Chg [rb] w w3) := Lib.hid (HCD.out.drew.trans hc3 (by simp))
                  have k12 := hr3.stopped
                  have f12 := hr3.free 12
                  clear hr3 hc3
                  have hgo2 : Vm.fin (Vm.go F m) = (u, 4, { (Vm.op c x y k m1).2 with stopped := 4 }) := by
                    rw [HGO.out, HGO2.out, if_pos h4]
                    simp [Vm.fin]
                  have HG2 := Lib.hid hgo2
                  clear hgo2
                  go_wp2
                  go_ret2
                  rw [HG2.out]
                  exact ⟨rfl, HR3.out.setStopped 4, HC3.out.setCell _ _ (by simp)⟩

end Go.Proofs.Ytocjdbenelikpaa
