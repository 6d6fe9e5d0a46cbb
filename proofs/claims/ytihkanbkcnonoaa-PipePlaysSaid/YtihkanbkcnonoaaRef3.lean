/-
  The document's answer about labels (package lazaretref3), walked.
-/
import Derived.Test.YtihkanbkcnonoaaLab4
import Derived.Deep.LoopGhost
import Derived.BigQuiet
namespace Go.Proofs.Ytihkanbkcnonoaa
open Go.RowKit
set_option linter.unusedVariables false

set_option maxHeartbeats 4000000 in
theorem rset_any (a : Option Addr) (len cap : Nat) (zs : List Int) (w : World) (h : Nums w a len cap zs) :
    Calls Try.prog 34 #[.slice a len cap] w fun e w' => e = .returned (.bool (Pi.setB zs)) ∧ Chg [] w w' := by
  rcases h.cases with ⟨rfl, rfl⟩ | ⟨b, off, rfl, hlen, h0, hm, hcell⟩
  · go_enter Try.func34, Try.ntmps34
    go_wp2
    refine wp_loop_rounds 1 ?_
    rw [rounds_succ]
    go_wp2
    go_ret
    exact ⟨ret_bool (by simp [Pi.setB, Pi.risesFrom]), Chg.refl _ _⟩
  · have hs0 : Hid (Pi.setB zs = (Pi.risesFrom none zs && decide (len ≤ 16))) := by unfold Pi.setB; rw [hlen]; rfl
    clear h
    go_enter Try.func34, Try.ntmps34
    go_wp2_with fail
    go_loopg [3] len (fun g c wr => ∃ k : Nat, k + g = len ∧ c = .int .i64 k ∧ Hid (Pi.risesFrom none zs = Pi.risesFrom (prevAt zs k) (zs.drop k)) ∧ Chg [] w wr)
    case atStart => exact ⟨0, by omega, rfl, Lib.hid rfl, Chg.refl _ _⟩
    case round =>
      obtain ⟨k, hk, rfl, hr, hch⟩ := hrel
      have HC := Lib.hid hch
      have hcw : ∀ j, j < len → wr.cell? ⟨b, off + j, none⟩ = some (.int .i64 (zs.getD j 0)) := fun j hj => hch.cell (hcell j hj) (by simp)
      clear hch hcell
      cases gk with
      | zero =>
        obtain rfl : k = len := by omega
        have HD : Hid (Pi.risesFrom none zs = true) := Lib.hid (by
          rw [hr.out, List.drop_of_length_le (by omega)]
          simp [Pi.risesFrom])
        clear hcw
        go_wp2
        go_ret
        exact ⟨ret_bool (by rw [hs0.out, HD.out]; simp; omega), HC.out⟩
      | succ g =>
        have hlt : k < len := by omega
        have hki : (k : Int) < (len : Int) := by omega
        have hk0 : (0 : Int) ≤ (k : Int) := by omega
        have hc := hcw k hlt
        have hst := rises_step zs k (by omega)
        have HCP := Lib.hid (hcw (k - 1) (by omega))
        obtain ⟨z, hz⟩ : ∃ z, zs.getD k 0 = z := ⟨_, rfl⟩
        obtain ⟨p, hp⟩ : ∃ p, zs.getD (k - 1) 0 = p := ⟨_, rfl⟩
        rw [hz] at hc
        rw [hz, hp] at hst
        have HST := Lib.hid hst
        clear hst hcw
        by_cases h1 : z < 1
        · clear hz hp
          go_wp2_with fail
          go_quiet (fail)
          all_goals
            go_wp2
            go_ret
            exact ⟨ret_bool (by rw [hs0.out, hr.out, HST.out]; simp [Pi.tagB]; omega), HC.out.drewN _⟩
        · have h1' : 1 ≤ z := by omega
          clear h1
          have d1 : decide (z < 1) = false := decide_eq_false (by omega)
          by_cases h2 : 2147483647 < z
          · clear hz hp
            have d2 : decide (2147483647 < z) = true := decide_eq_true h2
            go_wp2_with fail
            go_quiet (fail)
            all_goals
              go_wp2
              go_ret
              exact ⟨ret_bool (by rw [hs0.out, hr.out, HST.out]; simp [Pi.tagB]; omega), HC.out.drewN _⟩
          · have h2' : z ≤ 2147483647 := by omega
            clear h2
            have d2 : decide (2147483647 < z) = false := decide_eq_false (by omega)
            by_cases h3 : k = 0
            · have d3 : decide (0 < k) = false := decide_eq_false (by omega)
              clear hz hp
              have HN2 : Hid (Pi.risesFrom none zs = Pi.risesFrom (prevAt zs (k + 1)) (zs.drop (k + 1))) := Lib.hid (by
                rw [hr.out, HST.out]
                have e1 : Pi.tagB z = true := by unfold Pi.tagB; simp; omega
                rw [e1]
                simp; omega)
              clear h3
              go_wp2_with fail
              go_quiet (fail)
              all_goals
                go_wp2
                go_roundg g
                case measure => omega
                case rel => exact ⟨k + 1, by omega, by go_num, HN2, HC.out.drewN _⟩
            · have hcp := HCP.out
              rw [hp] at hcp
              have k1 : (0 : Int) < (k : Int) := by omega
              have k2 : (0 : Int) ≤ (k : Int) - 1 := by omega
              have k3 : (k : Int) - 1 < (len : Int) := by omega
              have k4 : ((k : Int) - 1).toNat = k - 1 := by omega
              have k5 : IntKind.i64.wrap ((k : Int) - 1) = (k : Int) - 1 := by rw [IntKind.wrap_i64]; omega
              clear hz hp
              have d3 : decide (0 < k) = true := decide_eq_true (by omega)
              by_cases h4 : z ≤ p
              · have d4 : decide (z ≤ p) = true := decide_eq_true h4
                go_wp2_with fail
                go_quiet (fail)
                all_goals
                  go_wp2
                  go_ret
                  exact ⟨ret_bool (by rw [hs0.out, hr.out, HST.out]; simp [Pi.tagB]; omega), HC.out.drewN _⟩
              · have h5 : p < z := by omega
                clear h4
                have d4 : decide (z ≤ p) = false := decide_eq_false (by omega)
                have HN2 : Hid (Pi.risesFrom none zs = Pi.risesFrom (prevAt zs (k + 1)) (zs.drop (k + 1))) := Lib.hid (by
                  rw [hr.out, HST.out]
                  have e1 : Pi.tagB z = true := by unfold Pi.tagB; simp; omega
                  rw [e1]
                  simp; omega)
                go_wp2_with fail
                go_quiet (fail)
                all_goals
                  go_wp2
                  go_roundg g
                  case measure => omega
                  case rel => exact ⟨k + 1, by omega, by go_num, HN2, HC.out.drewN _⟩

set_option maxHeartbeats 1000000 in
theorem rmay_any (a1 : Option Addr) (n1 c1 : Nat) (a2 : Option Addr) (n2 c2 : Nat) (l : Pi.Lab) (w : World) (h : LabAt w a1 n1 c1 a2 n2 c2 l) :
    Calls Try.prog 22 #[.agg #[.slice a1 n1 c1, .slice a2 n2 c2]] w fun e w' => e = .returned (.bool (Pi.mayB l)) ∧ Chg [] w w' := by
  have hc0 : Chg [] w (w.alloc (.cells #[.slice a1 n1 c1, .slice a2 n2 c2] 26)) := (Chg.refl [] w).alloc _
  have ho := heap_alloc_new w (.cells #[.slice a1 n1 c1, .slice a2 n2 c2] 26)
  have HL := Lib.hid (h.kept0 hc0)
  have HC0 := Lib.hid hc0
  have HO := Lib.hid ho
  have hm : Pi.mayB l = (Pi.setB l.S && Pi.setB l.I) := rfl
  rw [hm]
  clear h hc0 ho hm
  go_enter Try.func22, Try.ntmps22
  go_wp2_with fail
  refine (rset_any a1 n1 c1 _ _ HL.out.s).mono ?_
  rintro e w2 ⟨rfl, hc2⟩
  have HC2 := Lib.hid (HC0.out.then0 hc2)
  have k1 := cell_of_obj (hc2.obj HO.out (by simp)) (j := 1) rfl
  have HL2 := Lib.hid (HL.out.kept0 hc2)
  clear hc2
  cases hs : Pi.setB l.S with
  | false =>
    go_wp2
    go_ret
    exact ⟨ret_bool (by rw [hs]; rfl), HC2.out⟩
  | true =>
    go_wp2_with fail
    refine (rset_any a2 n2 c2 _ _ HL2.out.i).mono ?_
    rintro e w3 ⟨rfl, hc3⟩
    go_wp2
    go_ret
    exact ⟨ret_bool (by rw [hs]; simp), HC2.out.then0 hc3⟩

end Go.Proofs.Ytihkanbkcnonoaa
