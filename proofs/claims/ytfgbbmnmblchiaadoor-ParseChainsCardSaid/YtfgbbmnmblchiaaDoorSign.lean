/-
  The sign at a text's beginning, walked.
-/
import Derived.Test.YtfgbbmnmblchiaaDoorBad
namespace Go.Proofs.YtfgbbmnmblchiaaDoor
open Go.RowKit
set_option linter.unusedVariables false

theorem sign_cells {b : Nat} (w : World) (f : Nat × Nat) (h : w.heap[b]? = some (.cells #[.string ⟨#[38, 38]⟩, .string ⟨#[124, 124]⟩, .string ⟨#[62, 62]⟩, .string ⟨#[124]⟩, .string ⟨#[60]⟩, .string ⟨#[62]⟩, .string ⟨#[40]⟩, .string ⟨#[41]⟩] 9 f)) (k : Nat) (hk : k < 8) :
    w.cell? ⟨b, k, none⟩ = some (.string (Lx.strB (Lx.signs.getD k []))) := by
  refine cell_of_obj h ?_
  match k, hk with
  | 0, _ => rfl
  | 1, _ => rfl
  | 2, _ => rfl
  | 3, _ => rfl
  | 4, _ => rfl
  | 5, _ => rfl
  | 6, _ => rfl
  | 7, _ => rfl

theorem sign_found (r : List UInt8) : ∀ (l : List (List UInt8)) (k : Nat), k < l.length → (∀ j, j < k → (l.getD j []).isPrefixOf r = false) → (l.getD k []).isPrefixOf r = true → (l.find? fun x => x.isPrefixOf r) = some (l.getD k [])
  | [], k, hk, _, _ => by simp at hk
  | x :: t, 0, _, _, h => by
    have h : x.isPrefixOf r = true := h
    simp [h]
  | x :: t, k + 1, hk, ha, h => by
    have h0 : x.isPrefixOf r = false := ha 0 (by omega)
    have := sign_found r t k (by simpa using hk) (fun j hj => ha (j + 1) (by omega)) h
    rw [List.find?_cons, h0]
    exact this
theorem sign_none (r : List UInt8) : ∀ (l : List (List UInt8)), (∀ j, j < l.length → (l.getD j []).isPrefixOf r = false) → (l.find? fun x => x.isPrefixOf r) = none
  | [], _ => rfl
  | x :: t, ha => by
    have h0 : x.isPrefixOf r = false := ha 0 (by simp)
    have := sign_none r t (fun j hj => ha (j + 1) (by simpa using hj))
    rw [List.find?_cons, h0]
    exact this

set_option maxHeartbeats 1000000 in
theorem sign_any (s : ByteArray) (w : World) :
    Calls Tryd.prog 22 #[.string s] w fun e w' => e = .returned (.string (Lx.strB (Lx.signOf s.data.toList))) ∧ Chg [] w w' := by
  obtain ⟨r, hr⟩ : ∃ r, s.data.toList = r := ⟨_, rfl⟩
  have HS := Lib.hid hr
  rw [hr]
  clear hr
  go_enter Tryd.func22, Tryd.ntmps22
  go_wp2_with fail
  have HC := Lib.hid ((Chg.refl [] w).alloc (.cells #[.string ⟨#[38, 38]⟩, .string ⟨#[124, 124]⟩, .string ⟨#[62, 62]⟩, .string ⟨#[124]⟩, .string ⟨#[60]⟩, .string ⟨#[62]⟩, .string ⟨#[40]⟩, .string ⟨#[41]⟩] 9))
  have hcell := Lib.hid (sign_cells (b := w.heap.size) _ _ (obj_alloc_new w (.cells #[.string ⟨#[38, 38]⟩, .string ⟨#[124, 124]⟩, .string ⟨#[62, 62]⟩, .string ⟨#[124]⟩, .string ⟨#[60]⟩, .string ⟨#[62]⟩, .string ⟨#[40]⟩, .string ⟨#[41]⟩] 9)))
  generalize w.alloc (.cells #[.string ⟨#[38, 38]⟩, .string ⟨#[124, 124]⟩, .string ⟨#[62, 62]⟩, .string ⟨#[124]⟩, .string ⟨#[60]⟩, .string ⟨#[62]⟩, .string ⟨#[40]⟩, .string ⟨#[41]⟩] 9) = w1 at *
  go_loopg [4, 7] 8 (fun g c4 c7 wr => ∃ k : Nat, k + g = 8 ∧ c7 = .int .i64 k ∧ wr = w1 ∧ Hid (∀ j, j < k → (Lx.signs.getD j []).isPrefixOf r = false))
  case atStart => exact ⟨0, by omega, rfl, rfl, Lib.hid (fun j hj => by omega)⟩
  case round =>
    obtain ⟨k, hk, rfl, rfl, ha⟩ := hrel
    cases gk with
    | zero =>
      obtain rfl : k = 8 := by omega
      have hn := Lib.hid (sign_none r Lx.signs (fun j hj => ha.out j hj))
      go_wp2
      go_ret
      exact ⟨ret_str (by unfold Lx.signOf; rw [hn.out]; rfl), HC.out⟩
    | succ g =>
      have hk8 : k < 8 := by omega
      have hki : (k : Int) < 8 := by omega
      have hk0 : (0 : Int) ≤ (k : Int) := by omega
      have hc := hcell.out k hk8
      cases hp : (Lx.signs.getD k []).isPrefixOf r with
      | true =>
        have hn := Lib.hid (sign_found r Lx.signs k hk8 ha.out hp)
        have HP := Lib.hid hp
        clear hp
        generalize Lx.signs.getD k [] = x at *
        go_wp2_with fail
        refine (Tryd.strings_HasPrefix _ _ _).mono ?_
        rw [show Lib.hasPrefix s.data.toList (Lx.strB x).data.toList = true from by rw [HS.out, Lx.strB_data]; exact HP.out]
        rintro e w' ⟨rfl, rfl⟩
        go_wp2
        go_ret
        exact ⟨ret_str (by unfold Lx.signOf; rw [hn.out]; rfl), HC.out⟩
      | false =>
        have ha2 := Lib.hid (show ∀ j, j < k + 1 → (Lx.signs.getD j []).isPrefixOf r = false from fun j hj => by
          by_cases hj' : j = k
          · subst hj'; exact hp
          · exact ha.out j (by omega))
        have HP := Lib.hid hp
        clear hp
        generalize Lx.signs.getD k [] = x at hc HP
        go_wp2_with fail
        refine (Tryd.strings_HasPrefix _ _ _).mono ?_
        rw [show Lib.hasPrefix s.data.toList (Lx.strB x).data.toList = false from by rw [HS.out, Lx.strB_data]; exact HP.out]
        rintro e w' ⟨rfl, rfl⟩
        go_wp2
        go_roundg g
        case measure => omega
        case rel => exact ⟨k + 1, by omega, by go_num, rfl, ha2⟩

end Go.Proofs.YtfgbbmnmblchiaaDoor
