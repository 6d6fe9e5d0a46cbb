/-
  The laws' own build: an image of instructions and data, walked.
-/
import Derived.Test.YtocjdbenelikpaaValidB
import Derived.Test.YtocjdbenelikpaaClone
namespace Go.Proofs.Ytocjdbenelikpaa
open Go.RowKit
set_option linter.unusedVariables false
set_option linter.unusedSimpArgs false

def headB (c d : Nat) : List UInt8 := [76, 90, UInt8.ofNat (c / 4 / 256), UInt8.ofNat (c / 4), UInt8.ofNat (d / 256), UInt8.ofNat d]

/-- what build answers. -/
def BuildPost (w : World) (code data : List UInt8) : Ending → World → Prop := fun e w' =>
  ∃ a len cap, e = .returned (.slice a len cap) ∧ Bytes w' a len cap (headB code.length data.length ++ code ++ data) ∧ Chg [] w w'

theorem bytes_one (xs : List UInt8) : ∀ u ∈ xs.map byteV, u.oneCell' = true := by
  intro u hu
  obtain ⟨x, _, rfl⟩ := List.mem_map.1 hu
  rfl

set_option maxHeartbeats 1000000 in
theorem build_any (w : World) (a1 : Option Addr) (n1 c1 : Nat) (code : List UInt8) (h1 : Bytes w a1 n1 c1 code) (a2 : Option Addr) (n2 c2 : Nat) (data : List UInt8) (h2 : Bytes w a2 n2 c2 data) (hn1 : n1 ≤ 2048) (hn2 : n2 ≤ 1024) :
    Calls Try.prog 13 #[.slice a1 n1 c1, .slice a2 n2 c2] w (BuildPost w code data) := by
  obtain ⟨i0, hi, hz0, hz1, hz2⟩ := info_parts Try.infoByte
  have hl1 := h1.len
  have hl2 := h2.len
  have H1 := Lib.hid h1
  have H2 := Lib.hid h2
  clear h1 h2
  have e1 : (headB n1 n2).map byteV = [.int .u8 76, .int .u8 90, .int .u8 ((n1 : Int) / 4 / 256), .int .u8 ((n1 : Int) / 4 % 256), .int .u8 ((n2 : Int) / 256), .int .u8 ((n2 : Int) % 256)] := by
    unfold headB byteV
    simp only [List.map_cons, List.map_nil, UInt8.toNat_ofNat']
    congr 6 <;> (congr 1; congr 1; first | omega | (simp only [List.cons.injEq, Value.int.injEq, true_and, and_true]; omega))
  have hrow : Row (w.alloc (.cells #[.int .u8 76, .int .u8 90, .int .u8 ((n1 : Int) / 4 / 256), .int .u8 ((n1 : Int) / 4 % 256), .int .u8 ((n2 : Int) / 256), .int .u8 ((n2 : Int) % 256)] 5)) 5 1 (.slice (some ⟨w.heap.size, 0, none⟩) 6 6) 6 ((headB n1 n2).map byteV) := by
    refine ⟨by simp [headB], .inr ⟨_, 6, _, rfl, heap_alloc_new w _, by omega, by unfold maxLen; omega, by simp, ?_⟩⟩
    rw [e1]; rfl
  have hs1 := H1.out.src.alloc (.cells #[.int .u8 76, .int .u8 90, .int .u8 ((n1 : Int) / 4 / 256), .int .u8 ((n1 : Int) / 4 % 256), .int .u8 ((n2 : Int) / 256), .int .u8 ((n2 : Int) % 256)] 5)
  have hs2 := H2.out.src.alloc (.cells #[.int .u8 76, .int .u8 90, .int .u8 ((n1 : Int) / 4 / 256), .int .u8 ((n1 : Int) / 4 % 256), .int .u8 ((n2 : Int) / 256), .int .u8 ((n2 : Int) % 256)] 5)
  go_enter Try.func13, Try.ntmps13
  go_wp2_with (at_builtin; refine wpList_append_row _ rfl _ _ 26 rfl 5 i0 (.int .u8 0) 1 1 Try.underlying26 hi hz0 hz1 hz2 rfl (by decide) _ _ _ rfl hrow _ n1 c1 _ rfl (by simp; omega) hs1 (bytes_one _) (by unfold maxLen; omega) (by omega) ?_)
  intro v1 w1 hr1 hc1 hsub1
  have hr : Row w1 5 1 v1 (6 + n1) ((headB n1 n2 ++ code).map byteV) := by rw [List.map_append, e1]; exact hr1
  have hC1 : Chg [] w w1 := ((Chg.refl [] w).alloc _).trans hc1 (by simp [rowBlock])
  have HR := Lib.hid hr
  have HC1 := Lib.hid hC1
  have HSUB : Hid (∀ k ∈ rowBlock v1, w.heap.size ≤ k) := Lib.hid (fun k hk => by
    rcases hsub1 k hk with h | h
    · simp [rowBlock] at h; omega
    · omega)
  clear hr hr1 hC1 hc1 hsub1 hrow hs1 hs2 e1
  go_wp2_with (at_builtin; refine wpList_append_row _ rfl _ _ 26 rfl 5 i0 (.int .u8 0) 1 1 Try.underlying26 hi hz0 hz1 hz2 rfl (by decide) _ _ _ rfl HR.out _ n2 c2 _ rfl (by simp; omega) (H2.out.kept0 HC1.out).src (bytes_one _) (by unfold maxLen; omega) (by omega) ?_)
  intro v2 w2 hr2 hc2 hsub2
  obtain ⟨a, cap, rfl, hcap⟩ := hr2.shape
  have HR2 := Lib.hid hr2
  have HC2 : Hid (Chg [] w w2) := Lib.hid (HC1.out.trans hc2 (fun x hx => .inr (HSUB.out x hx)))
  clear hr2 hc2 hsub2
  go_wp2
  go_ret
  refine ⟨a, _, cap, rfl, ⟨?_, hcap, ?_⟩, HC2.out⟩
  · rw [hl1, hl2]; simp [headB]; omega
  · rw [hl1, hl2, List.map_append]
    exact HR2.out.src

end Go.Proofs.Ytocjdbenelikpaa
