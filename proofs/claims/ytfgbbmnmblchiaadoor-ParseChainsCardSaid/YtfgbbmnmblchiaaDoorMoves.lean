/-
  A reader of commands moves on: plain.
-/
import Derived.Test.YtfgbbmnmblchiaaDoorRead
namespace Go.Proofs.YtfgbbmnmblchiaaDoor
open Go.RowKit
set_option linter.unusedVariables false

section
variable {ts : List Lx.Tok} {cmd : Nat → Ps.Res Ps.Node}

theorem endsP_ge (p : Nat) : p ≤ Ps.endsP ts p := Nat.le_add_right _ _

theorem listL_mono (hmv : Moves cmd) : ∀ (f p : Nat) (acc l : List Ps.Node) (b : Nat), Ps.listL ts cmd f p acc = .ok l b → p ≤ b
  | 0, p, acc, l, b, h => by
    unfold Ps.listL at h
    cases h
    exact Nat.le_refl _
  | f + 1, p, acc, l, b, h => by
    cases hc : Ps.closing ts p with
    | true => rw [listL_end hc] at h; cases h; exact Nat.le_refl _
    | false =>
      rw [listL_more hc] at h
      cases hk : Ps.chainP ts cmd p with
      | bad e q => rw [hk] at h; cases h
      | ok k q =>
        rw [hk] at h
        have h1 := chain_moves hmv hk
        replace h : (if Ps.isT ts q 3 [] = true then Ps.listL ts cmd f (Ps.endsP ts q) (acc ++ [k]) else .ok (acc ++ [k]) q) = .ok l b := h
        split at h
        · have := listL_mono hmv f _ _ _ _ h
          have := endsP_ge (ts := ts) q
          omega
        · cases h; omega
theorem listP_mono (hmv : Moves cmd) {sm : Bool} {p : Nat} {n : Ps.Node} {q : Nat} (h : Ps.listP ts cmd sm p = .ok n q) : p ≤ q := by
  rw [listP_eq] at h
  cases hl : Ps.listL ts cmd (ts.length + 1) (Ps.endsP ts p) [] with
  | bad e b => rw [hl] at h; cases h
  | ok l b =>
    rw [hl] at h
    have h1 := listL_mono hmv _ _ _ _ _ hl
    have h2 := endsP_ge (ts := ts) p
    replace h : (if sm = true ∧ l = [] then Ps.Res.bad 10 b else .ok (Ps.node 1 l) b) = .ok n q := h
    split at h
    · cases h
    · cases h; omega
theorem wantP_ok {p : Nat} {k : Int} {x : List UInt8} {u : Unit} {q : Nat} (h : Ps.wantP ts p k x = .ok u q) : q = p + 1 := by
  unfold Ps.wantP at h
  split at h
  · cases h; rfl
  · cases h

theorem groupP_mono (hmv : Moves cmd) {p : Nat} {n : Ps.Node} {q : Nat} (h : Ps.groupP ts cmd p = .ok n q) : p ≤ q := by
  cases hl : Ps.listP ts cmd true p with
  | bad e b => rw [groupP_bad hl] at h; cases h
  | ok x b =>
    have h1 := listP_mono hmv hl
    cases hw : Ps.wantP ts b 2 [41] with
    | bad e c => rw [groupP_bad2 hl hw] at h; cases h
    | ok u c =>
      have h2 := wantP_ok hw
      rw [groupP_ok hl hw] at h; cases h; omega
theorem bodyP_mono (hmv : Moves cmd) {p : Nat} {n : Ps.Node} {q : Nat} (h : Ps.bodyP ts cmd p = .ok n q) : p ≤ q := by
  cases hw : Ps.wantP ts p 1 Ps.kwDo with
  | bad e c => rw [bodyP_bad hw] at h; cases h
  | ok u c =>
    have h2 := wantP_ok hw
    cases hl : Ps.listP ts cmd true c with
    | bad e b => rw [bodyP_bad2 hw hl] at h; cases h
    | ok x b =>
      have h1 := listP_mono hmv hl
      cases hw2 : Ps.wantP ts b 1 Ps.kwDone with
      | bad e d => rw [bodyP_bad3 hw hl hw2] at h; cases h
      | ok v d =>
        have h3 := wantP_ok hw2
        rw [bodyP_ok hw hl hw2] at h; cases h; omega
theorem loopP_mono (hmv : Moves cmd) {p : Nat} {n : Ps.Node} {q : Nat} (h : Ps.loopP ts cmd p = .ok n q) : p ≤ q := by
  cases hl : Ps.listP ts cmd true p with
  | bad e b => rw [loopP_bad hl] at h; cases h
  | ok x b =>
    have h1 := listP_mono hmv hl
    cases hw : Ps.bodyP ts cmd b with
    | bad e c => rw [loopP_bad2 hl hw] at h; cases h
    | ok u c =>
      have h2 := bodyP_mono hmv hw
      rw [loopP_ok hl hw] at h; cases h; omega
theorem branchP_mono (hmv : Moves cmd) {p : Nat} {n : Ps.Node} {q : Nat} (h : Ps.branchP ts cmd p = .ok n q) : p ≤ q := by
  cases h1 : Ps.listP ts cmd true p with
  | bad e b => rw [branchP_1 h1] at h; cases h
  | ok x b =>
    have m1 := listP_mono hmv h1
    cases h2 : Ps.wantP ts b 1 Ps.kwThen with
    | bad e c => rw [branchP_2 h1 h2] at h; cases h
    | ok u c =>
      have m2 := wantP_ok h2
      cases h3 : Ps.listP ts cmd true c with
      | bad e d => rw [branchP_3 h1 h2 h3] at h; cases h
      | ok y d =>
        have m3 := listP_mono hmv h3
        cases h4 : Ps.isT ts d 1 Ps.kwElse with
        | true =>
          cases h5 : Ps.listP ts cmd true (d + 1) with
          | bad e f => rw [branchP_4 h1 h2 h3 h4 h5] at h; cases h
          | ok z f =>
            have m5 := listP_mono hmv h5
            cases h6 : Ps.wantP ts f 1 Ps.kwFi with
            | bad e g => rw [branchP_5 h1 h2 h3 h4 h5 h6] at h; cases h
            | ok v g =>
              have m6 := wantP_ok h6
              rw [branchP_6 h1 h2 h3 h4 h5 h6] at h; cases h; omega
        | false =>
          cases h6 : Ps.wantP ts d 1 Ps.kwFi with
          | bad e g => rw [branchP_7 h1 h2 h3 h4 h6] at h; cases h
          | ok v g =>
            have m6 := wantP_ok h6
            rw [branchP_8 h1 h2 h3 h4 h6] at h; cases h; omega
end

end Go.Proofs.YtfgbbmnmblchiaaDoor
