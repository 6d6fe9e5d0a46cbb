/-
  awake, walked: it is true.
-/
import Derived.Test.YtihkanbkcnonoaaAt
namespace Go.Proofs.Ytihkanbkcnonoaa
open Go.RowKit Go.Maps
set_option linter.unusedVariables false

theorem srcAB (w : World) (E : TypeId) (f : Nat × Nat) : SrcAt (w.alloc (.cells #[.int .u8 97, .int .u8 98] E f)) (some ⟨w.heap.size, 0, none⟩) (([97, 98] : List UInt8).map byteV) := srcNew w #[.int .u8 97, .int .u8 98] E f

theorem Row.srcB {w : World} {E : TypeId} {a : Option Addr} {m c : Nat} {n : Nat} {bs : List UInt8} (h : Row w E 1 (.slice a m c) n (bs.map byteV)) : SrcAt w a (bs.map fun x => Value.int .u8 (x.toNat : Int)) := h.src

set_option maxHeartbeats 2000000 in
theorem awake_any (w : World) : Calls Try.prog 14 #[] w fun e w' => e = .returned (.bool true) ∧ Chg [] w w' := by
  have kc := fun (w : World) (C : Array Value) (n c : Nat) => Lib.run_convert_bytes_const (P := Try.prog) w 31 5 C n c Try.underlying31 Try.underlying5
  go_enter Try.func14, Try.ntmps14
  go_wp2_with fail
  refine (new_at w).mono ?_
  rintro e w1 ⟨t, rfl, h1⟩
  have H1 := Lib.hid h1
  clear h1
  go_wp2_with fail
  refine (make_at H1.out (new_ok 9) (by omega) none 0 0 none 0 0 ⟨[], []⟩ (lab0 _) (r1 := 1) (r2 := 0) (s' := one ⟨[], []⟩ [] 1 1) rfl).mono ?_
  rintro e w2 ⟨rfl, h2, _⟩
  have H2 := Lib.hid h2
  clear h2 H1
  go_wp2_with fail
  refine (write_at (N := 9) (H2.out.alloc _) (one_ok rfl (by simp) (by simp) (by simp) (by omega)) none 0 0 none 0 0 ⟨[], []⟩ 1 wf1 (lab0 _) _ _ _ [97, 98] (srcAB _ _ _) rfl (Nat.le_refl _) (by decide) (r1 := 2) (r2 := 0) (s' := one ⟨[], []⟩ [97, 98] 1 1) rfl).mono ?_
  rintro e w3 ⟨rfl, h3, _⟩
  have H3 := Lib.hid h3
  clear h3 H2
  go_wp2_with fail
  refine (read_at (N := 9) H3.out (one_ok rfl (by simp) (by simp) (by simp) (by omega)) none 0 0 none 0 0 ⟨[], []⟩ 1 wf1 (lab0 _) 9 (by decide) (out := [97, 98]) (r := 0) (s' := one ⟨[], []⟩ [] 1 1) 2 rfl rfl).mono ?_
  rintro e w4 ⟨a4, c4, rfl, r4, h4, _⟩
  have H4 := Lib.hid h4
  have R4 := Lib.hid r4
  clear h4 H3 r4
  go_wp2_with fail
  refine (read_at (N := 9) H4.out (one_ok rfl (by simp) (by simp) (by simp) (by omega)) none 0 0 none 0 0 ⟨[], []⟩ 1 wf1 (lab0 _) 9 (by decide) (out := []) (r := 63) (s' := one ⟨[], []⟩ [] 1 1) 0 rfl rfl).mono ?_
  rintro e w5 ⟨a5, c5, rfl, r5, h5, s5⟩
  have H5 := Lib.hid h5
  have R5 := Lib.hid (R4.out.same s5 (fun k hk => by rw [List.mem_append]; exact .inl hk))
  clear h5 H4 R4 r5 s5
  go_wp2_with fail
  refine (drop_at (N := 9) H5.out (one_ok rfl (by simp) (by simp) (by simp) (by omega)) (by omega) 1 wf1 true (r := 0) (s' := one ⟨[], []⟩ [] 1 0) rfl).mono ?_
  rintro e w6 ⟨rfl, h6, s6⟩
  have H6 := Lib.hid h6
  have R6 := Lib.hid (R5.out.same s6 (fun k hk => by simp only [List.mem_append]; exact .inr (.inl hk)))
  clear h6 H5 R5 s6
  go_wp2_with fail
  refine (read_at (N := 9) H6.out (one_ok rfl (by simp) (by simp) (by simp) (by omega)) none 0 0 none 0 0 ⟨[], []⟩ 1 wf1 (lab0 _) 9 (by decide) (out := []) (r := 0) (s' := one ⟨[], []⟩ [] 1 0) 0 rfl rfl).mono ?_
  rintro e w7 ⟨a7, c7, rfl, r7, h7, s7⟩
  have H7 := Lib.hid h7
  have R7 := R6.out.same s7 (fun k hk => by simp only [List.mem_append]; exact .inr (.inl hk))
  have hconv := run_conv_string (P := Try.prog) w7 31 9 5 Try.underlying31 Try.underlying5 Try.underlying9 a4 c4 [97, 98] R7.srcB
  simp only [List.length_cons, List.length_nil, Nat.zero_add, Nat.reduceAdd] at hconv
  clear h7 H6 R6 s7 r7 R7
  go_wp2_with fail
  refine (count_at H7.out).mono ?_
  rintro e w' ⟨rfl, rfl⟩
  have HC := Lib.hid H7.out.chg
  clear H7
  go_wp2
  go_ret
  exact ⟨rfl, HC.out⟩

end Go.Proofs.Ytihkanbkcnonoaa
