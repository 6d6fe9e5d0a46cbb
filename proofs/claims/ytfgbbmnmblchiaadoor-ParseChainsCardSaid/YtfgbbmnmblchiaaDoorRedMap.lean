/-
  The table of the redirections' signs, made anew and looked into.
-/
import Derived.Test.YtfgbbmnmblchiaaDoorSimpF
namespace Go.Proofs.YtfgbbmnmblchiaaDoor
open Go.RowKit Go.Maps
set_option linter.unusedVariables false

set_option maxRecDepth 100000 in
theorem zeroInt (w : World) : (zeroValue 3).run Tryd.prog w = .ok (.int .i64 0) w := by rfl
theorem wf_small {n : Int} (h : -9223372036854775808 ≤ n ∧ n ≤ 9223372036854775807) : (Lit.int .i64 n).wf = true := WalkArith.wf_i64 h
theorem key_str (l : List UInt8) (h : l.length ≤ 2048) : keyOf Tryd.prog 9 (.string (Lx.strB l)) = some (.string l) := by
  rw [WideMaps.keyOf_string_mk (P := Tryd.prog) Tryd.underlying9 (by rw [Lx.strB_size]; unfold maxLen; omega), Lx.strB_data]
theorem elem_int (n : Int) (h : -9223372036854775808 ≤ n ∧ n ≤ 9223372036854775807) : plainElem (H := Unit) Tryd.prog 3 (.int .i64 n) = some (.lit (.int .i64 n), []) := plainElem_int Tryd.underlying3 (wf_small h)

theorem put3 : (((DataW.map (H := Unit) []).put (.string [60]) (.lit (.int .i64 1))).put (.string [62]) (.lit (.int .i64 2))).put (.string [62, 62]) (.lit (.int .i64 3)) = .map [(.string [60], .lit (.int .i64 1)), (.string [62], .lit (.int .i64 2)), (.string [62, 62], .lit (.int .i64 3))] := by rfl

theorem at3 (x : List UInt8) : (DataW.map (H := Unit) [(.string [60], .lit (.int .i64 1)), (.string [62], .lit (.int .i64 2)), (.string [62, 62], .lit (.int .i64 3))]).atKey (.string x) (.lit (.int .i64 0)) = .lit (.int .i64 (Ps.redK x)) := by
  have e : ∀ y : List UInt8, (y == x) = decide (x = y) := fun y => by
    by_cases h : x = y
    · rw [decide_eq_true h, h]; simp
    · rw [decide_eq_false h]; simpa using fun h2 => h h2.symm
  unfold DataW.atKey Ps.redK
  simp only [List.find?, Lit.sameKey, e]
  by_cases h1 : x = [60]
  · subst h1; rfl
  · rw [if_neg h1, decide_eq_false h1]
    by_cases h2 : x = [62]
    · subst h2; rfl
    · rw [if_neg h2, decide_eq_false h2]
      by_cases h3 : x = [62, 62]
      · subst h3; rfl
      · rw [if_neg h3, decide_eq_false h3]

theorem Chg.ofMap {w w' : World} {b : Nat} (h : w.grownBy w' (some b)) : Chg [b] w w' := (Chg.refl [b] w).grown h (fun k hk => .inl (by cases hk; simp))

set_option maxRecDepth 100000 in
/-- the table. -/
theorem red_map (x : List UInt8) (hx : x.length ≤ 2048) (w : World) : ∃ w1 w2 w3 : World,
    (Instr.mapUpdate 137 (.map (some w.heap.size)) (.string ⟨#[60]⟩) (.int .i64 1)).run Tryd.prog (w.alloc (.map #[] 0)) = .ok () w1 ∧
    (Instr.mapUpdate 137 (.map (some w.heap.size)) (.string ⟨#[62]⟩) (.int .i64 2)).run Tryd.prog w1 = .ok () w2 ∧
    (Instr.mapUpdate 137 (.map (some w.heap.size)) (.string ⟨#[62, 62]⟩) (.int .i64 3)).run Tryd.prog w2 = .ok () w3 ∧
    (Instr.lookup 137 (.map (some w.heap.size)) (.string (Lx.strB x)) false).run Tryd.prog w3 = .ok (.int .i64 (Ps.redK x)) w3 ∧ Chg [] w w3 := by
  have K := string_keyed Tryd.underlying9
  have h0 := World.ownsMap_made w Tryd.prog 9 (plainElem (H := Unit) Tryd.prog 3)
  obtain ⟨w1, r1, o1, g1⟩ := h0.update K Tryd.underlying137 (by unfold maxLen; omega) (key_str [60] (by decide)) (elem_int 1 (by omega))
  obtain ⟨w2, r2, o2, g2⟩ := o1.update K Tryd.underlying137 (by unfold maxLen; omega) (key_str [62] (by decide)) (elem_int 2 (by omega))
  obtain ⟨w3, r3, o3, g3⟩ := o2.update K Tryd.underlying137 (by unfold maxLen; omega) (key_str [62, 62] (by decide)) (elem_int 3 (by omega))
  rw [put3] at o3
  obtain ⟨c, hrun, hat, _⟩ := o3.lookup_int K Tryd.underlying137 Tryd.underlying3 (zeroInt w3) (key_str x hx)
  rw [at3] at hat
  have hc : Ps.redK x = c := by injection hat with h; injection h
  subst hc
  refine ⟨w1, w2, w3, r1, r2, r3, hrun, ?_⟩
  exact (((Chg.refl [] w).alloc _).trans (Chg.ofMap g1) (fun k hk => .inr (by simp at hk; omega))).trans ((Chg.ofMap g2).trans (Chg.ofMap g3) (fun k hk => .inl hk)) (fun k hk => .inr (by simp at hk; omega))

end Go.Proofs.YtfgbbmnmblchiaaDoor
