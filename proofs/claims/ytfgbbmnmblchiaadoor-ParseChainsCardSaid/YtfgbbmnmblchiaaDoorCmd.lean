/-
  A command: plain steps; what is read moves on; the function values.
-/
import Derived.Test.YtfgbbmnmblchiaaDoorSimpW
import Derived.Test.YtfgbbmnmblchiaaDoorEachW
namespace Go.Proofs.YtfgbbmnmblchiaaDoor
open Go.RowKit
set_option linter.unusedVariables false

section
variable {ts : List Lx.Tok} {cmd : Nat → Ps.Res Ps.Node} {p q d : Nat} {t : Lx.Tok} {n : Ps.Node}
theorem cmdP_closing (h : Ps.closing ts p = true) : Ps.cmdP ts d p = .bad 10 p := by
  unfold Ps.cmdP
  rw [if_pos h]
theorem cmdP_simple (h : Ps.closing ts p = false) (ht : ts[p]? = some t) (hk : Ps.readK t.text = 0) : Ps.cmdP ts d p = Ps.simpleP ts p := by
  unfold Ps.cmdP
  rw [if_neg (by rw [h]; decide), ht]
  show (if _ then _ else _) = _
  rw [if_pos hk]
theorem cmdP_deep (h : Ps.closing ts p = false) (ht : ts[p]? = some t) (hk : ¬ Ps.readK t.text = 0) : Ps.cmdP ts 0 p = .bad 12 p := by
  unfold Ps.cmdP
  rw [if_neg (by rw [h]; decide), ht]
  show (if _ then _ else _) = _
  rw [if_neg hk]
theorem cmdP_read (h : Ps.closing ts p = false) (ht : ts[p]? = some t) (hk : ¬ Ps.readK t.text = 0) : Ps.cmdP ts (d + 1) p = Ps.readP ts (Ps.cmdP ts d) (Ps.readK t.text) (p + 1) := by
  conv => lhs; unfold Ps.cmdP
  rw [if_neg (by rw [h]; decide), ht]
  show (if _ then _ else _) = _
  rw [if_neg hk]

theorem closing_lt (h : Ps.closing ts p = false) : p < ts.length := by
  apply Decidable.byContradiction
  intro hn
  rw [closing_none hn] at h
  cases h

theorem simpleL_mono : ∀ (f p : Nat) (cm cm' : Ps.Cmd) (b : Nat), Ps.simpleL ts f p cm = .ok cm' b → p ≤ b
  | 0, p, cm, cm', b, h => by
    unfold Ps.simpleL at h
    cases h
    exact Nat.le_refl _
  | f + 1, p, cm, cm', b, h => by
    cases ht : ts[p]? with
    | none => rw [simpleL_none ht] at h; cases h; exact Nat.le_refl _
    | some t =>
      by_cases hA : t.kind = 2 ∧ 0 < Ps.redK t.text
      · cases hb : Ps.isT ts (p + 1) 1 [] with
        | false => rw [simpleL_red0 ht hA hb] at h; cases h
        | true =>
          have hlt := isT_lt hb
          have hu : ts[p + 1]? = some ts[p + 1] := List.getElem?_eq_getElem hlt
          rw [isT_some hu] at hb
          rw [simpleL_red ht hA hu (by simpa using hb)] at h
          have := simpleL_mono f _ _ _ _ h
          omega
      · by_cases hK : t.kind = 1
        · rw [simpleL_word ht hK] at h
          have := simpleL_mono f _ _ _ _ h
          omega
        · rw [simpleL_stop ht hA hK] at h; cases h; exact Nat.le_refl _

theorem simpleP_moves (h : Ps.simpleP ts p = .ok n q) : p < q := by
  unfold Ps.simpleP at h
  cases hl : Ps.simpleL ts (ts.length + 1) p ⟨[], [], []⟩ with
  | bad e b => rw [hl] at h; cases h
  | ok cm b =>
    rw [hl] at h
    have h2 : (if b = p then Ps.Res.bad 10 b else Ps.Res.ok (.mk 5 [] [] cm.words cm.sets cm.reds) b) = Ps.Res.ok n q := h
    have hm := simpleL_mono _ _ _ _ _ hl
    split at h2
    · cases h2
    · cases h2; omega

theorem eachP_mono (hmv : Moves cmd) (h : Ps.eachP ts cmd p = .ok n q) : p ≤ q := by
  cases hb : Ps.isT ts p 1 [] with
  | false => rw [eachP_1 hb] at h; cases h
  | true =>
    have hlt := isT_lt hb
    have ht : ts[p]? = some ts[p] := List.getElem?_eq_getElem hlt
    have hk : ts[p].kind = 1 := by rw [isT_some ht] at hb; simpa using hb
    cases hn : Lx.isName ts[p].text with
    | false => rw [eachP_2 ht hn] at h; cases h
    | true =>
      cases h1 : Ps.wantP ts (p + 1) 1 Ps.kwIn with
      | bad e b => rw [eachP_3 ht hk hn h1] at h; cases h
      | ok u b =>
        have m1 := wantP_ok h1
        cases h2 : Ps.wantP ts (b + (Ps.wordsAt ts b).length) 3 [] with
        | bad e c => rw [eachP_4 ht hk hn h1 h2] at h; cases h
        | ok v c =>
          have m2 := wantP_ok h2
          have hc : c ≤ ts.length := by
            unfold Ps.wantP at h2
            split at h2
            · rename_i h3
              have := isT_lt h3
              cases h2
              omega
            · cases h2
          have m3 := (endsP_le hc).1
          cases h3 : Ps.bodyP ts cmd (Ps.endsP ts c) with
          | bad e s => rw [eachP_5 ht hk hn h1 h2 h3] at h; cases h
          | ok x s =>
            have m4 := bodyP_mono hmv h3
            rw [eachP_6 ht hk hn h1 h2 h3] at h
            cases h
            omega

theorem readP_mono (hmv : Moves cmd) {k : Nat} (h : Ps.readP ts cmd k p = .ok n q) : p ≤ q := by
  unfold Ps.readP at h
  split at h
  · exact groupP_mono hmv h
  · split at h
    · exact branchP_mono hmv h
    · split at h
      · exact loopP_mono hmv h
      · exact eachP_mono hmv h

theorem cmdP_moves : ∀ d, Moves (Ps.cmdP ts d)
  | d, p, n, q, h => by
    cases hc : Ps.closing ts p with
    | true => rw [cmdP_closing hc] at h; cases h
    | false =>
      have hlt := closing_lt hc
      have ht : ts[p]? = some ts[p] := List.getElem?_eq_getElem hlt
      by_cases hk : Ps.readK ts[p].text = 0
      · rw [cmdP_simple hc ht hk] at h
        exact simpleP_moves h
      · cases d with
        | zero => rw [cmdP_deep hc ht hk] at h; cases h
        | succ d =>
          rw [cmdP_read hc ht hk] at h
          have := readP_mono (cmdP_moves d) h
          omega
end

theorem call_one {P : Program} {f : FuncId} {fn : Func} (hf : P.funcs[f]? = some fn) (hn : (fn.name == "runtime.NumGoroutine") = false) (hb : fn.body.isNone = false) (args : Array Value) (w : World) :
    Sem.run P (callFunc f args) w = .ok (.enter f args) w := by
  obtain ⟨b, hb'⟩ : ∃ b, fn.body = some b := by
    cases h : fn.body with
    | none => rw [h] at hb; cases hb
    | some b => exact ⟨b, rfl⟩
  simp at hn
  simp [callFunc, go_sem, hf, hb', hn]

def readF (k : Nat) : FuncId := if k = 1 then 78 else if k = 2 then 79 else if k = 3 then 80 else 81

theorem readK_le (x : List UInt8) : Ps.readK x ≤ 4 := by
  unfold Ps.readK
  repeat' split
  all_goals omega
theorem readV_some {k : Nat} (h : ¬ k = 0) (h4 : k ≤ 4) : readV k = .func (.func (readF k)) #[] #[] := by
  rcases (show k = 1 ∨ k = 2 ∨ k = 3 ∨ k = 4 from by omega) with rfl | rfl | rfl | rfl <;> rfl
theorem call_fn {k : Nat} (h : ¬ k = 0) (h4 : k ≤ 4) (args : Array Value) (w : World) : Sem.run Tryd.prog (callFunc (readF k) args) w = .ok (.enter (readF k) args) w := by
  rcases (show k = 1 ∨ k = 2 ∨ k = 3 ∨ k = 4 from by omega) with rfl | rfl | rfl | rfl
  · exact call_one Tryd.func78 (by decide +kernel) (by kernel_rfl) args w
  · exact call_one Tryd.func79 (by decide +kernel) (by kernel_rfl) args w
  · exact call_one Tryd.func80 (by decide +kernel) (by kernel_rfl) args w
  · exact call_one Tryd.func81 (by decide +kernel) (by kernel_rfl) args w

/-- a reading by its number. -/
theorem read_any (pb : Nat) (a : Option Addr) (c : Nat) (ts : List Lx.Tok) (vs : List Value) (p deep : Nat) (cmd : Nat → Ps.Res Ps.Node) (hcmd : CmdOk pb a c ts vs deep cmd) (hmv : Moves cmd) {k : Nat} (hk : ¬ k = 0) (h4 : k ≤ 4) (w : World) (h : PS w pb a c ts vs p deep 0) :
    Calls Tryd.prog (readF k) #[.pointer (some ⟨pb, 0, none⟩)] w fun e w' => RdPost w pb a c ts vs deep (Ps.readP ts cmd k p) e w' := by
  have hli : ListOk pb a c ts vs deep cmd := fun sm p W h => list_any pb a c ts vs p deep cmd hcmd hmv sm W h
  rcases (show k = 1 ∨ k = 2 ∨ k = 3 ∨ k = 4 from by omega) with rfl | rfl | rfl | rfl
  · exact group_any pb a c ts vs p deep cmd hli w h
  · exact branch_any pb a c ts vs p deep cmd hli w h
  · exact loop_any pb a c ts vs p deep cmd hli w h
  · exact each_any pb a c ts vs p deep cmd hli hmv w h

end Go.Proofs.YtfgbbmnmblchiaaDoor
