/-
  slices.Clone at []int and []byte, slices.Clip at []byte, walked.
-/
import Derived.Test.YtihkanbkcnonoaaLab4
namespace Go.Proofs.Ytihkanbkcnonoaa
open Go.RowKit
set_option linter.unusedVariables false

theorem Try.infoByte : (Try.prog.info? 5).map (fun i => (i.zero, i.size, i.bytes)) = some (some (.int .u8 0), 1, 1) := by kernel_rfl

theorem clone_ints (a : Option Addr) (n c : Nat) (xs : List Value) (w : World) (hn : xs.length = n) (hnil : a = none → n = 0) (hsrc : SrcAt w a xs) (h1 : ∀ u ∈ xs, u.oneCell' = true) (hreach : n * 8 ≤ 140737488351232) :
    Calls Try.prog 24 #[.slice a n c] w fun e w' => ∃ v, e = .returned v ∧ Row w' 3 1 v n xs ∧ Chg [] w w' ∧ ∀ k ∈ rowBlock v, w.heap.size ≤ k := by
  obtain ⟨i0, hi, hz0, hz1, hz2⟩ := info_parts Try.infoInt
  have hq := fun w => Lib.run_eql_slice_nil (P := Try.prog) w 22 3 a n c 0 0 Try.underlying22
  cases a with
  | none =>
    obtain rfl := hnil rfl
    obtain rfl : xs = [] := List.eq_nil_of_length_eq_zero hn
    go_enter Try.func24, Try.ntmps24
    go_wp2
    go_ret
    exact ⟨_, rfl, Row.nil _ _ _ _, Chg.refl _ _, by simp [rowBlock]⟩
  | some ad =>
    have hrow : Row (w.alloc (.cells #[] 3)) 3 1 (.slice (some ⟨w.heap.size, 0, none⟩) 0 0) 0 [] := Row.nil _ _ _ _
    have hsrc1 := hsrc.alloc (.cells #[] 3)
    go_enter Try.func24, Try.ntmps24
    go_wp2_with (at_builtin; refine wpList_append_row _ rfl _ _ 22 rfl 3 i0 (.int .i64 0) 1 8 Try.underlying22 hi hz0 hz1 hz2 rfl (by decide) _ _ _ rfl hrow _ n c xs rfl (by omega) hsrc1 h1 (by unfold maxLen; omega) (by omega) ?_)
    intro v' w' hrow' hch' hsub
    have hch := Lib.hid (((Chg.refl [] w).alloc (.cells #[] 3)).trans hch' (by simp [rowBlock]))
    have hr := Lib.hid hrow'
    have hs := Lib.hid hsub
    clear hrow' hch' hsub hq
    go_wp2
    go_ret
    exact ⟨_, rfl, by simpa using hr.out, hch.out, fun k hk => by
      rcases hs.out k hk with h | h
      · simp [rowBlock] at h
      · omega⟩

theorem clone_bytes (a : Option Addr) (n c : Nat) (xs : List Value) (w : World) (hn : xs.length = n) (hnil : a = none → n = 0) (hsrc : SrcAt w a xs) (h1 : ∀ u ∈ xs, u.oneCell' = true) (hreach : n * 1 ≤ 140737488351232) :
    Calls Try.prog 28 #[.slice a n c] w fun e w' => ∃ v, e = .returned v ∧ Row w' 5 1 v n xs ∧ Chg [] w w' ∧ ∀ k ∈ rowBlock v, w.heap.size ≤ k := by
  obtain ⟨i0, hi, hz0, hz1, hz2⟩ := info_parts Try.infoByte
  have hq := fun w => Lib.run_eql_slice_nil (P := Try.prog) w 31 5 a n c 0 0 Try.underlying31
  cases a with
  | none =>
    obtain rfl := hnil rfl
    obtain rfl : xs = [] := List.eq_nil_of_length_eq_zero hn
    go_enter Try.func28, Try.ntmps28
    go_wp2
    go_ret
    exact ⟨_, rfl, Row.nil _ _ _ _, Chg.refl _ _, by simp [rowBlock]⟩
  | some ad =>
    have hrow : Row (w.alloc (.cells #[] 5)) 5 1 (.slice (some ⟨w.heap.size, 0, none⟩) 0 0) 0 [] := Row.nil _ _ _ _
    have hsrc1 := hsrc.alloc (.cells #[] 5)
    go_enter Try.func28, Try.ntmps28
    go_wp2_with (at_builtin; refine wpList_append_row _ rfl _ _ 31 rfl 5 i0 (.int .u8 0) 1 1 Try.underlying31 hi hz0 hz1 hz2 rfl (by decide) _ _ _ rfl hrow _ n c xs rfl (by omega) hsrc1 h1 (by unfold maxLen; omega) (by omega) ?_)
    intro v' w' hrow' hch' hsub
    have hch := Lib.hid (((Chg.refl [] w).alloc (.cells #[] 5)).trans hch' (by simp [rowBlock]))
    have hr := Lib.hid hrow'
    have hs := Lib.hid hsub
    clear hrow' hch' hsub hq
    go_wp2
    go_ret
    exact ⟨_, rfl, by simpa using hr.out, hch.out, fun k hk => by
      rcases hs.out k hk with h | h
      · simp [rowBlock] at h
      · omega⟩

theorem clip_bytes (a : Option Addr) (len cap : Nat) (w : World) (h1 : len ≤ cap) (h2 : cap ≤ maxLen) :
    Calls Try.prog 27 #[.slice a len cap] w fun e w' => e = .returned (.slice a len len) ∧ w = w' := by
  unfold maxLen at h2
  go_enter Try.func27, Try.ntmps27
  go_wp2
  go_ret
  exact ⟨rfl, rfl⟩

end Go.Proofs.Ytihkanbkcnonoaa
