/-
  What a slice of slices of bytes that came in is to the walks.
-/
import Derived.Test.YtihkanbkcnonoaaOrder
import Derived.Test.YtihkanbkcnonoaaArgs
namespace Go.Proofs.Ytihkanbkcnonoaa
open Go.RowKit
set_option linter.unusedVariables false

theorem bytes_of {zs : List Int} (h : ∀ n ∈ zs, (Lit.int .u8 n).wf = true) : (zs.map fun n => UInt8.ofNat n.toNat).map byteV = zs.map (Value.int .u8) := by
  rw [List.map_map]
  refine List.map_congr_left fun n hn => ?_
  have h1 := h n hn
  have h2 : 0 ≤ n ∧ n ≤ 255 := by
    simp [Lit.wf, IntKind.min, IntKind.max, IntKind.signed, IntKind.bits] at h1
    omega
  show Value.int .u8 ((UInt8.ofNat n.toNat).toNat : Int) = Value.int .u8 n
  congr 1
  rw [UInt8.toNat_ofNat']
  omega

theorem IsRow.bytes {w : World} {a : Option Addr} {len cap : Nat} {zs : List Int} (h : IsRow .u8 w a len cap zs) :
    ∃ bs : List UInt8, bs.length = len ∧ len ≤ cap ∧ cap ≤ maxLen ∧ SrcAt w a (bs.map byteV) := by
  obtain ⟨h1, h2, h3, h4, h5, _⟩ := h.src
  exact ⟨(zs.take len).map fun n => UInt8.ofNat n.toNat, by rw [List.length_map, h1], h2, h3, by rw [bytes_of h5]; exact h4⟩

theorem pieces_of {w : World} {base : Nat} {a : Addr} {len cap : Nat} {A : Nat → Option Addr} {L C : Nat → Nat} {Z : Nat → List Int} (hl : len ≤ cap) (hm : cap ≤ maxLen)
    (h : ∀ r, r < cap → w.cell? (a.add r) = some (.slice (A r) (L r) (C r)) ∧ L r ≤ C r ∧ C r ≤ maxLen ∧ (Z r).length = C r ∧ (∀ n ∈ Z r, (Lit.int .u8 n).wf = true) ∧ (A r = none → C r = 0) ∧
        ∀ a', A r = some a' → base ≤ a'.block ∧ ∀ c, c < C r → w.cell? (a'.add c) = some (.int .u8 ((Z r).getD c 0))) : ∃ ps, Pieces w (some a) len cap ps := by
  refine ⟨(List.range len).map fun r => ((Z r).take (L r)).map fun n => UInt8.ofNat n.toNat, by simp, ⟨hl, hm⟩, fun k hk => ?_⟩
  obtain ⟨h1, h2, h3, h4, h5, h6, h7⟩ := h k (by omega)
  obtain ⟨b, off, spot⟩ := a
  have hspot : spot = none := by
    simpa [Addr.add] using World.cell?_spot (h 0 (by omega)).1
  subst hspot
  have hadd : (⟨b, off, none⟩ : Addr).add k = ⟨b, off + k, none⟩ := by unfold Addr.add; split <;> simp_all
  rw [hadd] at h1
  have hd : ((List.range len).map fun r => ((Z r).take (L r)).map fun n => UInt8.ofNat n.toNat).getD k [] = ((Z k).take (L k)).map fun n => UInt8.ofNat n.toNat := by
    simp [List.getD, hk]
  have hr : IsRow .u8 w (A k) (L k) (C k) (Z k) := by
    cases ha : A k with
    | none =>
      have h0 := h6 ha
      exact .inl ⟨rfl, by omega, h0, List.eq_nil_of_length_eq_zero (by omega)⟩
    | some a' =>
      exact .inr ⟨a', rfl, h2, h3, h4, fun i hi => (h7 a' ha).2 i (by omega), h5⟩
  rw [hd]
  have hlen : (((Z k).take (L k)).map fun n => UInt8.ofNat n.toNat).length = L k := by rw [List.length_map, List.length_take]; omega
  rw [hlen]
  exact ⟨b, off, A k, C k, rfl, h1, h2, h3, by rw [bytes_of hr.src.2.2.2.2.1]; exact hr.src.2.2.2.1⟩

end Go.Proofs.Ytihkanbkcnonoaa
