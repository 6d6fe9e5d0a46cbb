/-
  Tokens that lie in memory, cell by cell.
-/
import Derived.Test.YtfgbbmnmblchiaaDoorTok
namespace Go.Proofs.YtfgbbmnmblchiaaDoor
open Go.RowKit
set_option linter.unusedVariables false

theorem tcells_get : ∀ (ts : List Lx.Tok) (vs : List Value) (i : Nat) (t : Lx.Tok) (u : Value), ts[i]? = some t → vs[i]? = some u → ∀ j, j < 4 → (tcells ts vs)[4 * i + j]? = (tokCells t.kind t.text u t.pos)[j]?
  | [], _, _, _, _, h, _, _, _ => by simp at h
  | _ :: _, [], _, _, _, _, h, _, _ => by simp at h
  | t0 :: ts, u0 :: vs, 0, t, u, ht, hu, j, hj => by
    simp at ht hu
    subst ht hu
    show (tokCells t0.kind t0.text u0 t0.pos ++ tcells ts vs)[4 * 0 + j]? = _
    rw [List.getElem?_append_left (by simp [tokCells]; omega)]
    simp
  | t0 :: ts, u0 :: vs, i + 1, t, u, ht, hu, j, hj => by
    have ih := tcells_get ts vs i t u (by simpa using ht) (by simpa using hu) j hj
    show (tokCells t0.kind t0.text u0 t0.pos ++ tcells ts vs)[4 * (i + 1) + j]? = _
    rw [List.getElem?_append_right (by simp [tokCells]; omega), ← ih]
    congr 1
    simp only [tokCells, List.length_cons, List.length_nil]
    omega

theorem pcells_get : ∀ (ps : List Lx.Part) (i : Nat) (p : Lx.Part), ps[i]? = some p → ∀ j, j < 2 → (pcells ps)[2 * i + j]? = (partCells p)[j]?
  | [], _, _, h, _, _ => by simp at h
  | p0 :: ps, 0, p, hp, j, hj => by
    simp at hp
    subst hp
    show (partCells p0 ++ pcells ps)[2 * 0 + j]? = _
    rw [List.getElem?_append_left (by simp [partCells]; omega)]
    simp
  | p0 :: ps, i + 1, p, hp, j, hj => by
    have ih := pcells_get ps i p (by simpa using hp) j hj
    show (partCells p0 ++ pcells ps)[2 * (i + 1) + j]? = _
    rw [List.getElem?_append_right (by simp [partCells]; omega), ← ih]
    congr 1
    simp only [partCells, List.length_cons, List.length_nil]
    omega

theorem Row.cells {w : World} {E : TypeId} {size n c : Nat} {a : Option Addr} {m : Nat} {xs : List Value} (h : Row w E size (.slice a n c) m xs) (hm : 0 < m) :
    ∃ g, a = some ⟨g, 0, none⟩ ∧ n = m ∧ m ≤ c ∧ ∀ j u, xs[j]? = some u → w.cell? ⟨g, j, none⟩ = some u := by
  rcases h.2 with ⟨rfl, _⟩ | ⟨g, cap, cur, hv, hg, h3, h4, h5, h6⟩
  · omega
  · cases hv
    exact ⟨g, rfl, rfl, h3, fun j u hj => cells_of_take hg h6 hj⟩

/-- the cells of token i. -/
structure TokCell (w : World) (g : Nat) (i : Nat) (t : Lx.Tok) (u : Value) : Prop where
  kind : w.cell? ⟨g, 4 * i, none⟩ = some (.int .i64 t.kind)
  text : w.cell? ⟨g, 4 * i + 1, none⟩ = some (.string (Lx.strB t.text))
  ps : w.cell? ⟨g, 4 * i + 2, none⟩ = some u
  pos : w.cell? ⟨g, 4 * i + 3, none⟩ = some (.int .i64 t.pos)

theorem ToksAt.cells {w : World} {a : Option Addr} {n c : Nat} {ts : List Lx.Tok} {vs : List Value} (h : ToksAt w (.slice a n c) ts vs) (h0 : 0 < ts.length) :
    ∃ g, a = some ⟨g, 0, none⟩ ∧ n = ts.length ∧ ts.length ≤ c ∧ ∀ i t u, ts[i]? = some t → vs[i]? = some u → TokCell w g i t u := by
  obtain ⟨g, rfl, hn, hc, hx⟩ := h.row.cells h0
  refine ⟨g, rfl, hn, hc, fun i t u ht hu => ⟨?_, ?_, ?_, ?_⟩⟩
  · exact hx (4 * i + 0) _ (tcells_get ts vs i t u ht hu 0 (by omega))
  · exact hx _ _ (tcells_get ts vs i t u ht hu 1 (by omega))
  · exact hx _ _ (tcells_get ts vs i t u ht hu 2 (by omega))
  · exact hx _ _ (tcells_get ts vs i t u ht hu 3 (by omega))

/-- the cells of piece i. -/
structure PartCell (w : World) (g : Nat) (i : Nat) (p : Lx.Part) : Prop where
  kind : w.cell? ⟨g, 2 * i, none⟩ = some (.int .i64 p.kind)
  text : w.cell? ⟨g, 2 * i + 1, none⟩ = some (.string (Lx.strB p.text))

theorem PartsAt.cells {w : World} {a : Option Addr} {n c : Nat} {ps : List Lx.Part} (h : PartsAt w (.slice a n c) ps) (h0 : 0 < ps.length) :
    ∃ g, a = some ⟨g, 0, none⟩ ∧ n = ps.length ∧ ps.length ≤ c ∧ ∀ i p, ps[i]? = some p → PartCell w g i p := by
  obtain ⟨g, rfl, hn, hc, hx⟩ := Row.cells h h0
  refine ⟨g, rfl, hn, hc, fun i p hp => ⟨?_, ?_⟩⟩
  · exact hx (2 * i + 0) _ (pcells_get ps i p hp 0 (by omega))
  · exact hx _ _ (pcells_get ps i p hp 1 (by omega))

end Go.Proofs.YtfgbbmnmblchiaaDoor
