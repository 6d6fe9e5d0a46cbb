/-
  What a slice of numbers that came in is to the walks.
-/
import Derived.Test.YtihkanbkcnonoaaLab
namespace Go.Proofs.Ytihkanbkcnonoaa
open Go.RowKit
set_option linter.unusedVariables false

/-- a slice of integers that came in: nil, or a row of 'cap' cells, the numbers 'zs', each fitting its kind. -/
def IsRow (k : IntKind) (w : World) (a : Option Addr) (len cap : Nat) (zs : List Int) : Prop :=
  (a = none ∧ len = 0 ∧ cap = 0 ∧ zs = []) ∨
  ∃ x, a = some x ∧ len ≤ cap ∧ cap ≤ maxLen ∧ zs.length = cap ∧ (∀ i, i < zs.length → w.cell? (x.add i) = some (.int k (zs.getD i 0))) ∧ ∀ n ∈ zs, (Lit.int k n).wf = true

theorem IsRow.src {k : IntKind} {w : World} {a : Option Addr} {len cap : Nat} {zs : List Int} (h : IsRow k w a len cap zs) :
    (zs.take len).length = len ∧ len ≤ cap ∧ cap ≤ maxLen ∧ SrcAt w a ((zs.take len).map (Value.int k)) ∧ (∀ n ∈ zs.take len, (Lit.int k n).wf = true) ∧ ∀ x, a = some x → 0 < cap → x.block < w.heap.size := by
  rcases h with ⟨rfl, rfl, rfl, rfl⟩ | ⟨x, rfl, hl, hm, hz, hcell, hwf⟩
  · exact ⟨rfl, Nat.le_refl _, Nat.zero_le _, by simp [SrcAt], by simp, by simp⟩
  · refine ⟨by rw [List.length_take]; omega, hl, hm, ?_, fun n hn => hwf n (List.mem_of_mem_take hn), ?_⟩
    · intro hne
      have h0 : 0 < len := by
        rcases Nat.eq_zero_or_pos len with h | h
        · subst h; simp at hne
        · exact h
      obtain ⟨b, off, spot⟩ := x
      have hc := hcell 0 (by omega)
      have hspot : spot = none := by simpa [Addr.add] using World.cell?_spot hc
      subst hspot
      refine ⟨b, off, rfl, fun j u hj => ?_⟩
      have hj' : j < len := by
        have := (List.getElem?_eq_some_iff.1 hj).1
        rw [List.length_map, List.length_take] at this
        omega
      have hjz : j < zs.length := by omega
      have h1 := hcell j hjz
      have hadd : (⟨b, off, none⟩ : Addr).add j = ⟨b, off + j, none⟩ := by unfold Addr.add; split <;> simp_all
      rw [hadd] at h1
      rw [h1]
      rw [List.getElem?_map, List.getElem?_take, if_pos hj'] at hj
      simp [List.getElem?_eq_getElem hjz] at hj ⊢
      exact hj
    · intro y hy h0
      cases hy
      have hc := hcell 0 (by omega)
      have h1 := World.block_lt_of_cell? w _ hc
      simpa [Addr.add] using h1

theorem IsRow.nums {w : World} {a : Option Addr} {len cap : Nat} {zs : List Int} (h : IsRow .i64 w a len cap zs) : Nums w a len cap (zs.take len) :=
  ⟨h.src.1, h.src.2.1, h.src.2.2.1, h.src.2.2.2.1⟩

end Go.Proofs.Ytihkanbkcnonoaa
