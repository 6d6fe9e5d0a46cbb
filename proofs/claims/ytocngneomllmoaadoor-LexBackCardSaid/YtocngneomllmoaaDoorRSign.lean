/-
  The document's sign: walked.
-/
import Derived.Test.YtocngneomllmoaaDoorREnds
namespace Go.Proofs.YtocngneomllmoaaDoor
open Go.RowKit
set_option linter.unusedVariables false

set_option maxHeartbeats 4000000 in
theorem rsign_any (l : List UInt8) (i : Nat) (hi : i < l.length) (hl : l.length ≤ 1000000) (w : World) :
    Calls Tryd.prog 22 #[.string (Lx.strB l), .int .i64 i] w fun e w' => e = .returned (.string (Lx.strB (Lx.signOf (l.drop i)))) ∧ Chg [] w w' := by
  have hsz := Lx.strB_size l
  have i0 : (0 : Int) ≤ (i : Int) := by omega
  have i1 : (i : Int) < (l.length : Int) := by omega
  have l1 : (l.length : Int) ≤ 1000000 := by omega
  obtain ⟨r, hr⟩ : ∃ r, l.drop i = r := ⟨_, rfl⟩
  have hrl : r.length = l.length - i := by rw [← hr, List.length_drop]
  rw [hr]
  have HRR := Lib.hid hr
  have HRL := Lib.hid hrl
  clear hr hrl
  go_enter Tryd.func22, Tryd.ntmps22
  go_wp2_with fail
  have HC := Lib.hid ((Chg.refl [] w).alloc (.cells #[.string ⟨#[38, 38]⟩, .string ⟨#[124, 124]⟩, .string ⟨#[62, 62]⟩, .string ⟨#[124]⟩, .string ⟨#[60]⟩, .string ⟨#[62]⟩, .string ⟨#[40]⟩, .string ⟨#[41]⟩] 9))
  have hcell0 := Lib.hid (sign_cells (b := w.heap.size) _ _ (obj_alloc_new w (.cells #[.string ⟨#[38, 38]⟩, .string ⟨#[124, 124]⟩, .string ⟨#[62, 62]⟩, .string ⟨#[124]⟩, .string ⟨#[60]⟩, .string ⟨#[62]⟩, .string ⟨#[40]⟩, .string ⟨#[41]⟩] 9)))
  generalize w.alloc (.cells #[.string ⟨#[38, 38]⟩, .string ⟨#[124, 124]⟩, .string ⟨#[62, 62]⟩, .string ⟨#[124]⟩, .string ⟨#[60]⟩, .string ⟨#[62]⟩, .string ⟨#[40]⟩, .string ⟨#[41]⟩] 9) = w1 at *
  generalize w.heap.size = B at *
  go_loopg [6] 9 (fun g c6 wr => ∃ k : Nat, 8 < k + g ∧ k ≤ 8 ∧ c6 = .int .i64 k ∧ (Chg [] w wr ∧ Chg [] w1 wr) ∧ Hid (∀ j, j < k → (Lx.signs.getD j []).isPrefixOf r = false))
  case atStart => exact ⟨0, by omega, by omega, rfl, ⟨HC.out, Chg.refl _ _⟩, Lib.hid (fun j hj => by omega)⟩
  case round =>
    obtain ⟨k, hg, hk, rfl, ⟨hcw, hc1⟩, ha⟩ := hrel
    have HCW := Lib.hid hcw
    have HC1 := Lib.hid hc1
    clear hcw hc1
    by_cases hlt : k < 8
    · cases gk with
      | zero => omega
      | succ g =>
        have k0 : (0 : Int) ≤ (k : Int) := by omega
        have k1 : (k : Int) < 8 := by omega
        obtain ⟨x, hx⟩ : ∃ x, Lx.signs.getD k [] = x := ⟨_, rfl⟩
        have hxl : 1 ≤ x.length ∧ x.length ≤ 2 := by
          rcases (show k = 0 ∨ k = 1 ∨ k = 2 ∨ k = 3 ∨ k = 4 ∨ k = 5 ∨ k = 6 ∨ k = 7 from by omega) with rfl | rfl | rfl | rfl | rfl | rfl | rfl | rfl <;> (rw [← hx]; decide)
        have hcl := hcell0.out k hlt
        rw [hx] at hcl
        have hc := HC1.out.cell hcl (by simp)
        have hxz := Lx.strB_size x
        have HX := Lib.hid hx
        have HG := Lib.hid hg
        clear hx hg hcl
        have x0 : (0 : Int) ≤ (x.length : Int) := by omega
        have x1 : (x.length : Int) ≤ 2 := by omega
        by_cases hlen : x.length ≤ r.length
        · have HRL2 := HRL.out
          have d1 : decide ((x.length : Int) ≤ (l.length : Int) - (i : Int)) = true := decide_eq_true (by omega)
          have b1 : (i : Int) + (x.length : Int) ≤ (l.length : Int) := by omega
          have b2 : (i : Int) ≤ (i : Int) + (x.length : Int) := by omega
          have b3 : (0 : Int) ≤ (i : Int) + (x.length : Int) := by omega
          have hw1 := Lib.hid (show IntKind.i64.wrap ((i : Int) + (x.length : Int)) = (i : Int) + (x.length : Int) from by rw [IntKind.wrap_i64]; omega)
          have hw2 := Lib.hid (show IntKind.i64.wrap ((l.length : Int) - (i : Int)) = (l.length : Int) - (i : Int) from by rw [IntKind.wrap_i64]; omega)
          obtain ⟨y, hy⟩ : ∃ y, r.take x.length = y := ⟨_, rfl⟩
          have hex := Lib.hid (show (Lx.strB l).extract i ((i : Int) + (x.length : Int)).toNat = Lx.strB y from by
            rw [show ((i : Int) + (x.length : Int)).toNat = i + x.length from by omega, Lx.strB_extract, show i + x.length - i = x.length from by omega, HRR.out, hy])
          have hpr : x.isPrefixOf r = true ↔ y = x := by
            rw [List.isPrefixOf_iff_prefix, List.prefix_iff_eq_take, hy]
            exact eq_comm
          clear HRL2
          by_cases he : y = x
          · have hb := Lib.hid (show Lx.signOf r = x from by
              unfold Lx.signOf
              rw [sign_found r Lx.signs k hlt ha.out (by rw [HX.out]; exact hpr.2 he), HX.out]; rfl)
            subst he
            have HPR := Lib.hid hpr
            clear hpr hy
            have hex2 := hex.out
            have hw1' := hw1.out
            have hw2' := hw2.out
            go_wp2_with fail
            go_quiet (fail)
            all_goals
              have HC3 := Lib.hid (HCW.out.drewN nq)
              have hc3 := (HC1.out.drewN nq).cell (hcell0.out k hlt) (by simp)
              rw [HX.out] at hc3
              generalize wr.drewN nq = w3 at *
              go_wp2_with fail
              go_ret
              exact ⟨ret_str (by rw [hb.out]), HC3.out⟩
          · have hne := Lib.hid (show ∀ j, j < k + 1 → (Lx.signs.getD j []).isPrefixOf r = false from fun j hj => by
              by_cases hjk : j = k
              · subst hjk
                rw [HX.out]
                cases h : x.isPrefixOf r with
                | false => rfl
                | true => exact absurd (hpr.1 h) he
              · exact ha.out j (by omega))
            have hsn : ((Lx.strB y).toList == (Lx.strB x).toList) = false := by rw [Lx.strB_toList, Lx.strB_toList, beq_eq_false_iff_ne]; exact he
            have HEQ := Lib.hid he
            clear hpr hy he
            have hex2 := hex.out
            have hw1' := hw1.out
            have hw2' := hw2.out
            go_wp2_with fail
            go_quiet (fail)
            all_goals
              go_wp2_with fail
              go_roundg g
              case measure => omega
              case rel => exact ⟨k + 1, by have := HG.out; omega, by omega, by go_num, ⟨HCW.out.drewN _, HC1.out.drewN _⟩, hne⟩
        · have hne := Lib.hid (show ∀ j, j < k + 1 → (Lx.signs.getD j []).isPrefixOf r = false from fun j hj => by
            by_cases hjk : j = k
            · subst hjk
              rw [HX.out]
              cases h : x.isPrefixOf r with
              | false => rfl
              | true => exact absurd (List.isPrefixOf_iff_prefix.1 h).length_le hlen
            · exact ha.out j (by omega))
          have HRL2 := HRL.out
          have d1 : decide ((x.length : Int) ≤ (l.length : Int) - (i : Int)) = false := decide_eq_false (by omega)
          clear hlen HRL2
          go_wp2_with fail
          go_quiet (fail)
          all_goals
            go_wp2_with fail
            go_roundg g
            case measure => omega
            case rel => exact ⟨k + 1, by have := HG.out; omega, by omega, by go_num, ⟨HCW.out.drewN _, HC1.out.drewN _⟩, hne⟩
    · obtain rfl : k = 8 := by omega
      have hn := Lib.hid (sign_none r Lx.signs (fun j hj => ha.out j hj))
      go_wp2
      go_ret
      exact ⟨ret_str (by unfold Lx.signOf; rw [hn.out]; rfl), HCW.out⟩

end Go.Proofs.YtocngneomllmoaaDoor
