/-
  awake: true.
-/
import Derived.Test.YtocngneomllmoaaDoorTokO
import Derived.KernelRfl
namespace Go.Proofs.YtocngneomllmoaaDoor
open Go.RowKit
set_option linter.unusedVariables false

theorem awake_one : Lx.tokens [101, 99, 104, 111, 32, 34, 97, 36, 120, 34, 32, 39, 98, 32, 99, 39] = (0, 0, [⟨1, [101, 99, 104, 111], [⟨1, [101, 99, 104, 111]⟩], 0⟩, ⟨1, [34, 97, 36, 120, 34], [⟨1, [97]⟩, ⟨3, [120]⟩], 5⟩, ⟨1, [39, 98, 32, 99, 39], [⟨1, [98, 32, 99]⟩], 11⟩]) := by
  decide +kernel
theorem awake_two : Lx.tokens [97, 32, 38, 32, 98] = (10, 2, []) := by decide +kernel

theorem tokens_const (l : List UInt8) (h : l.length ≤ 1000) (w : World) (hT : Hid (U8 w)) : Calls Tryd.prog 10 #[.string ⟨l.toArray⟩] w (TokensPost w (Lx.tokens l)) := tokens_any l w (by omega) hT

theorem U8.chg {w w' : World} (h : Hid (U8 w)) (hc : Chg [] w w') : Hid (U8 w') := u8_kept (F := []) h hc (by simp) (by simp)

/-- the cells that awake looks at. -/
theorem awake_cells {w : World} {a : Option Addr} {n : Nat} {vs : List Value} (h : ToksAt w (.slice a n n) [⟨1, [101, 99, 104, 111], [⟨1, [101, 99, 104, 111]⟩], 0⟩, ⟨1, [34, 97, 36, 120, 34], [⟨1, [97]⟩, ⟨3, [120]⟩], 5⟩, ⟨1, [39, 98, 32, 99, 39], [⟨1, [98, 32, 99]⟩], 11⟩] vs) :
    ∃ g g1 g2, a = some ⟨g, 0, none⟩ ∧ n = 3 ∧ w.cell? ⟨g, 6, none⟩ = some (.slice (some ⟨g1, 0, none⟩) 2 2) ∧ w.cell? ⟨g, 10, none⟩ = some (.slice (some ⟨g2, 0, none⟩) 1 1) ∧
      w.cell? ⟨g1, 2, none⟩ = some (.int .i64 3) ∧ w.cell? ⟨g2, 1, none⟩ = some (.string ⟨#[98, 32, 99]⟩) := by
  obtain ⟨g, rfl, hn, _, hc⟩ := h.cells (by simp)
  have hl := h.len
  obtain ⟨u0, u1, u2, rfl⟩ : ∃ u0 u1 u2, vs = [u0, u1, u2] := by
    match vs, hl with
    | [u0, u1, u2], _ => exact ⟨u0, u1, u2, rfl⟩
  obtain ⟨p1, a1, n1, rfl⟩ := h.parts 1 _ u1 rfl rfl
  obtain ⟨p2, a2, n2, rfl⟩ := h.parts 2 _ u2 rfl rfl
  obtain ⟨g1, rfl, hn1, _, hc1⟩ := p1.cells (by simp)
  obtain ⟨g2, rfl, hn2, _, hc2⟩ := p2.cells (by simp)
  subst hn1 hn2
  exact ⟨g, g1, g2, rfl, hn, (hc 1 _ _ rfl rfl).ps, (hc 2 _ _ rfl rfl).ps, (hc1 1 _ rfl).kind, (hc2 0 _ rfl).text⟩

set_option maxHeartbeats 2000000 in
set_option maxRecDepth 10000 in
theorem awake_any (w : World) (hT : Hid (U8 w)) : Calls Tryd.prog 9 #[] w fun e w' => e = .returned (.bool true) ∧ Chg [] w w' := by
  have h1 := tokens_const [101, 99, 104, 111, 32, 34, 97, 36, 120, 34, 32, 39, 98, 32, 99, 39] (by decide) w hT
  rw [awake_one] at h1
  have H1 := Lib.hid h1
  have H2 := Lib.hid (fun (W : World) (hW : Hid (U8 W)) => tokens_const [97, 32, 38, 32, 98] (by decide) W hW)
  clear h1
  go_enter Tryd.func9, Tryd.ntmps9
  go_wp2_with fail
  refine H1.out.mono ?_
  rintro e w1 ⟨a, n, vs, rfl, hA, hC⟩
  have HA := Lib.hid hA
  have HC := Lib.hid hC
  clear hA hC H1
  go_wp2_with fail
  have h2 := H2.out w1 (U8.chg hT HC.out)
  rw [awake_two] at h2
  refine h2.mono ?_
  clear h2 H2
  rintro e w2 ⟨a2, n2, vs2, rfl, hA2, hC2⟩
  obtain ⟨g, g1, g2, rfl, rfl, k1, k2, k3, k4⟩ := awake_cells (HA.out.kept0 hC2)
  have HC2 := Lib.hid (HC.out.then0 hC2)
  clear hA2 hC2 HA HC
  go_wp2
  go_ret
  exact ⟨rfl, HC2.out⟩

end Go.Proofs.YtocngneomllmoaaDoor
