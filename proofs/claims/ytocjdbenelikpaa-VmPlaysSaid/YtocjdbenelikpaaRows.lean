/-
  No cell of these rows narrows 'for every input' (looked for: loops, veiled, ifaces, maps, wideKeys, modest, calm, conditions, laid).
  DERIVED. THE GIVEN ROWS OF THIS SEAT. 9 by the template 'for every input the law returns true; each argument reads behind the call as it read before'; 0 by the template 'total and deterministic' (their statements: YtocjdbenelikpaaTotals.lean).
  GIVEN WITH THE SEED: the statements are not yours to turn. If you find one false, say at which input.
  Laid BY PROGRAM, IN A SANDBOX (cutbox-rows.mjs): the forced cells as the released guide's own fill.sh prints them over the translation f56dceb3124a1861… (all of the seat's roots in one cut). By AI agents, Wed Nov 11 2026. No macro, syntax, notation, axiom, sorry.
-/
import Derived.Test.YtocjdbenelikpaaChecked
import GoSem.Claim
import GoSem.ClaimJoined
import GoSem.ClaimMapViews
import Derived.JoinedTies
import Derived.KernelRfl
namespace Go.Proofs.Ytocjdbenelikpaa
/- THE CELL 'sum', in the pinned program and in every row, IS THE sha256 OF THE DUMP (.gsa) THAT YtocjdbenelikpaaProg.lean LOADS. Nothing in Lean hashes anything: it is a label: what it is worth is what the hold of that sum in a sandbox is worth. -/
noncomputable def Try.pinned : Pinned := { name := "ytocjdbenelikpaa", sum := "f56dceb3124a1861cb95a9ef798f1b0b80f54b6bb15a9a8a57ddc23b3a2f08b7", checked := Try.checked }
namespace Rows
def none {H : Type} : Left H := { results := [], args := [] }

/-- 'lazaretlaw9.VmCounts': WHATEVER THE INPUT: true; the input reads as it did. -/
def vmCountsSpec : ChangeSpec := { name := "vmCounts", fn := fun _ => fun
  | [d1, d2] => { results := [.lit (.bool true)], args := [d1, d2] }
  | _ => none }
def vmCountsRow : OpenClaim := { program := "ytocjdbenelikpaa", sum := "f56dceb3124a1861cb95a9ef798f1b0b80f54b6bb15a9a8a57ddc23b3a2f08b7", func := "lazaret/lazaretlaw9.VmCounts", spec := "vmCounts", unfollowed := true, recurses := true, apart := false }
def VmCountsSaid : Prop := vmCountsRow.holds Try.pinned (OpenSpec.ofChange vmCountsSpec)

/-- ITS FALSE NEIGHBOUR: 'it returns false'. Refute it at one input. -/
def vmCountsWrong : ChangeSpec := { name := "vmCounts", fn := fun _ => fun
  | [d1, d2] => { results := [.lit (.bool false)], args := [d1, d2] }
  | _ => none }
def VmCountsWrongFalsely : Prop := vmCountsRow.holds Try.pinned (OpenSpec.ofChange vmCountsWrong)

/-- 'lazaretlaw9.VmEnds': WHATEVER THE INPUT: true; the input reads as it did. -/
def vmEndsSpec : ChangeSpec := { name := "vmEnds", fn := fun _ => fun
  | [d] => { results := [.lit (.bool true)], args := [d] }
  | _ => none }
def vmEndsRow : OpenClaim := { program := "ytocjdbenelikpaa", sum := "f56dceb3124a1861cb95a9ef798f1b0b80f54b6bb15a9a8a57ddc23b3a2f08b7", func := "lazaret/lazaretlaw9.VmEnds", spec := "vmEnds", unfollowed := true, recurses := true, apart := false }
def VmEndsSaid : Prop := vmEndsRow.holds Try.pinned (OpenSpec.ofChange vmEndsSpec)

/-- ITS FALSE NEIGHBOUR: 'it returns false'. Refute it at one input. -/
def vmEndsWrong : ChangeSpec := { name := "vmEnds", fn := fun _ => fun
  | [d] => { results := [.lit (.bool false)], args := [d] }
  | _ => none }
def VmEndsWrongFalsely : Prop := vmEndsRow.holds Try.pinned (OpenSpec.ofChange vmEndsWrong)

/-- 'lazaretlaw9.VmForms': WHATEVER THE INPUT: true; the input reads as it did. -/
def vmFormsSpec : ChangeSpec := { name := "vmForms", fn := fun _ => fun
  | [d1, d2, d3, d4] => { results := [.lit (.bool true)], args := [d1, d2, d3, d4] }
  | _ => none }
def vmFormsRow : OpenClaim := { program := "ytocjdbenelikpaa", sum := "f56dceb3124a1861cb95a9ef798f1b0b80f54b6bb15a9a8a57ddc23b3a2f08b7", func := "lazaret/lazaretlaw9.VmForms", spec := "vmForms", unfollowed := true, recurses := true, apart := false }
def VmFormsSaid : Prop := vmFormsRow.holds Try.pinned (OpenSpec.ofChange vmFormsSpec)

/-- ITS FALSE NEIGHBOUR: 'it returns false'. Refute it at one input. -/
def vmFormsWrong : ChangeSpec := { name := "vmForms", fn := fun _ => fun
  | [d1, d2, d3, d4] => { results := [.lit (.bool false)], args := [d1, d2, d3, d4] }
  | _ => none }
def VmFormsWrongFalsely : Prop := vmFormsRow.holds Try.pinned (OpenSpec.ofChange vmFormsWrong)

/-- 'lazaretlaw9.VmValid': WHATEVER THE INPUT: true; the input reads as it did. -/
def vmValidSpec : ChangeSpec := { name := "vmValid", fn := fun _ => fun
  | [d] => { results := [.lit (.bool true)], args := [d] }
  | _ => none }
def vmValidRow : OpenClaim := { program := "ytocjdbenelikpaa", sum := "f56dceb3124a1861cb95a9ef798f1b0b80f54b6bb15a9a8a57ddc23b3a2f08b7", func := "lazaret/lazaretlaw9.VmValid", spec := "vmValid", unfollowed := true, recurses := true, apart := false }
def VmValidSaid : Prop := vmValidRow.holds Try.pinned (OpenSpec.ofChange vmValidSpec)

/-- ITS FALSE NEIGHBOUR: 'it returns false'. Refute it at one input. -/
def vmValidWrong : ChangeSpec := { name := "vmValid", fn := fun _ => fun
  | [d] => { results := [.lit (.bool false)], args := [d] }
  | _ => none }
def VmValidWrongFalsely : Prop := vmValidRow.holds Try.pinned (OpenSpec.ofChange vmValidWrong)

/-- 'lazaretlaw9.VmMath': WHATEVER THE INPUT: true; the input reads as it did. -/
def vmMathSpec : ChangeSpec := { name := "vmMath", fn := fun _ => fun
  | [d1, d2, d3] => { results := [.lit (.bool true)], args := [d1, d2, d3] }
  | _ => none }
def vmMathRow : OpenClaim := { program := "ytocjdbenelikpaa", sum := "f56dceb3124a1861cb95a9ef798f1b0b80f54b6bb15a9a8a57ddc23b3a2f08b7", func := "lazaret/lazaretlaw9.VmMath", spec := "vmMath", unfollowed := true, recurses := true, apart := false }
def VmMathSaid : Prop := vmMathRow.holds Try.pinned (OpenSpec.ofChange vmMathSpec)

/-- ITS FALSE NEIGHBOUR: 'it returns false'. Refute it at one input. -/
def vmMathWrong : ChangeSpec := { name := "vmMath", fn := fun _ => fun
  | [d1, d2, d3] => { results := [.lit (.bool false)], args := [d1, d2, d3] }
  | _ => none }
def VmMathWrongFalsely : Prop := vmMathRow.holds Try.pinned (OpenSpec.ofChange vmMathWrong)

/-- 'lazaretlaw9.VmSteps': WHATEVER THE INPUT: true; the input reads as it did. -/
def vmStepsSpec : ChangeSpec := { name := "vmSteps", fn := fun _ => fun
  | [d1, d2, d3] => { results := [.lit (.bool true)], args := [d1, d2, d3] }
  | _ => none }
def vmStepsRow : OpenClaim := { program := "ytocjdbenelikpaa", sum := "f56dceb3124a1861cb95a9ef798f1b0b80f54b6bb15a9a8a57ddc23b3a2f08b7", func := "lazaret/lazaretlaw9.VmSteps", spec := "vmSteps", unfollowed := true, recurses := true, apart := false }
def VmStepsSaid : Prop := vmStepsRow.holds Try.pinned (OpenSpec.ofChange vmStepsSpec)

/-- ITS FALSE NEIGHBOUR: 'it returns false'. Refute it at one input. -/
def vmStepsWrong : ChangeSpec := { name := "vmSteps", fn := fun _ => fun
  | [d1, d2, d3] => { results := [.lit (.bool false)], args := [d1, d2, d3] }
  | _ => none }
def VmStepsWrongFalsely : Prop := vmStepsRow.holds Try.pinned (OpenSpec.ofChange vmStepsWrong)

/-- 'lazaretlaw9.VmMemory': WHATEVER THE INPUT: true; the input reads as it did. -/
def vmMemorySpec : ChangeSpec := { name := "vmMemory", fn := fun _ => fun
  | [d1, d2, d3] => { results := [.lit (.bool true)], args := [d1, d2, d3] }
  | _ => none }
def vmMemoryRow : OpenClaim := { program := "ytocjdbenelikpaa", sum := "f56dceb3124a1861cb95a9ef798f1b0b80f54b6bb15a9a8a57ddc23b3a2f08b7", func := "lazaret/lazaretlaw9.VmMemory", spec := "vmMemory", unfollowed := true, recurses := true, apart := false }
def VmMemorySaid : Prop := vmMemoryRow.holds Try.pinned (OpenSpec.ofChange vmMemorySpec)

/-- ITS FALSE NEIGHBOUR: 'it returns false'. Refute it at one input. -/
def vmMemoryWrong : ChangeSpec := { name := "vmMemory", fn := fun _ => fun
  | [d1, d2, d3] => { results := [.lit (.bool false)], args := [d1, d2, d3] }
  | _ => none }
def VmMemoryWrongFalsely : Prop := vmMemoryRow.holds Try.pinned (OpenSpec.ofChange vmMemoryWrong)

/-- 'lazaretlaw9.VmCopies': WHATEVER THE INPUT: true; the input reads as it did. -/
def vmCopiesSpec : ChangeSpec := { name := "vmCopies", fn := fun _ => fun
  | [d1, d2, d3] => { results := [.lit (.bool true)], args := [d1, d2, d3] }
  | _ => none }
def vmCopiesRow : OpenClaim := { program := "ytocjdbenelikpaa", sum := "f56dceb3124a1861cb95a9ef798f1b0b80f54b6bb15a9a8a57ddc23b3a2f08b7", func := "lazaret/lazaretlaw9.VmCopies", spec := "vmCopies", unfollowed := true, recurses := true, apart := false }
def VmCopiesSaid : Prop := vmCopiesRow.holds Try.pinned (OpenSpec.ofChange vmCopiesSpec)

/-- ITS FALSE NEIGHBOUR: 'it returns false'. Refute it at one input. -/
def vmCopiesWrong : ChangeSpec := { name := "vmCopies", fn := fun _ => fun
  | [d1, d2, d3] => { results := [.lit (.bool false)], args := [d1, d2, d3] }
  | _ => none }
def VmCopiesWrongFalsely : Prop := vmCopiesRow.holds Try.pinned (OpenSpec.ofChange vmCopiesWrong)

/-- 'lazaretlaw9.VmPlays': WHATEVER THE INPUT: true; the input reads as it did. -/
def vmPlaysSpec : ChangeSpec := { name := "vmPlays", fn := fun _ => fun
  | [d1, d2] => { results := [.lit (.bool true)], args := [d1, d2] }
  | _ => none }
def vmPlaysRow : OpenClaim := { program := "ytocjdbenelikpaa", sum := "f56dceb3124a1861cb95a9ef798f1b0b80f54b6bb15a9a8a57ddc23b3a2f08b7", func := "lazaret/lazaretlaw9.VmPlays", spec := "vmPlays", unfollowed := true, recurses := true, apart := false }
def VmPlaysSaid : Prop := vmPlaysRow.holds Try.pinned (OpenSpec.ofChange vmPlaysSpec)

/-- ITS FALSE NEIGHBOUR: 'it returns false'. Refute it at one input. -/
def vmPlaysWrong : ChangeSpec := { name := "vmPlays", fn := fun _ => fun
  | [d1, d2] => { results := [.lit (.bool false)], args := [d1, d2] }
  | _ => none }
def VmPlaysWrongFalsely : Prop := vmPlaysRow.holds Try.pinned (OpenSpec.ofChange vmPlaysWrong)

/- THE SECOND FORM. 'bulk': how many values and letters a reading holds, each counted each time it is reached (what is shared counts as often as it is met; a slice's spare places count too). A statement '..UptoSaid' is the law's where the arguments, and the package variables that the reading takes, are together of bulk at most 1048576: NARROWER than '..Said'. Prove '..Said' where nothing that the law and all that it calls make is longer than what came in: it says more and counts as full. Else prove '..UptoSaid'. A law counts once. -/
mutual
def uptoBulk {H : Type} : DataW H → Nat
  | .lit (.string bytes) => bytes.length + 1
  | .lit _ => 1
  | .nil => 1
  | .ptr d => uptoBulk d + 1
  | .slice elems spare => uptoBulkAll elems + uptoBulkAll spare + 1
  | .agg parts => uptoBulkAll parts + 1
  | .iface _ d => uptoBulk d + 1
  | .map entries => uptoBulkEntries entries + 1
  | .held _ => 1
def uptoBulkAll {H : Type} : List (DataW H) → Nat
  | [] => 0
  | d :: r => uptoBulk d + uptoBulkAll r
def uptoBulkEntries {H : Type} : List (Lit × DataW H) → Nat
  | [] => 0
  | x :: r => uptoBulkEntry x + uptoBulkEntries r
def uptoBulkEntry {H : Type} : Lit × DataW H → Nat
  | (.string bytes, d) => bytes.length + uptoBulk d + 1
  | (_, d) => uptoBulk d + 1
 end
def uptoSmall : (H : Type) → List (DataW H) → Bool := fun _ ds => decide (uptoBulkAll ds ≤ 1048576)
def OpenSpec.upto (s : _root_.Go.ChangeSpec) : _root_.Go.OpenSpec := { _root_.Go.OpenSpec.ofChange s with cond := some uptoSmall }

/-- 'lazaretlaw9.VmCounts', WHERE WHAT IT READS IS OF BULK AT MOST 1048576: true; the input reads as it did. -/
def vmCountsUptoRow : OpenClaim := { program := "ytocjdbenelikpaa", sum := "f56dceb3124a1861cb95a9ef798f1b0b80f54b6bb15a9a8a57ddc23b3a2f08b7", func := "lazaret/lazaretlaw9.VmCounts", spec := "vmCounts", unfollowed := true, recurses := true, apart := false, narrowed := true }
def VmCountsUptoSaid : Prop := vmCountsUptoRow.holds Try.pinned (OpenSpec.upto vmCountsSpec)

/-- 'lazaretlaw9.VmEnds', WHERE WHAT IT READS IS OF BULK AT MOST 1048576: true; the input reads as it did. -/
def vmEndsUptoRow : OpenClaim := { program := "ytocjdbenelikpaa", sum := "f56dceb3124a1861cb95a9ef798f1b0b80f54b6bb15a9a8a57ddc23b3a2f08b7", func := "lazaret/lazaretlaw9.VmEnds", spec := "vmEnds", unfollowed := true, recurses := true, apart := false, narrowed := true }
def VmEndsUptoSaid : Prop := vmEndsUptoRow.holds Try.pinned (OpenSpec.upto vmEndsSpec)

/-- 'lazaretlaw9.VmForms', WHERE WHAT IT READS IS OF BULK AT MOST 1048576: true; the input reads as it did. -/
def vmFormsUptoRow : OpenClaim := { program := "ytocjdbenelikpaa", sum := "f56dceb3124a1861cb95a9ef798f1b0b80f54b6bb15a9a8a57ddc23b3a2f08b7", func := "lazaret/lazaretlaw9.VmForms", spec := "vmForms", unfollowed := true, recurses := true, apart := false, narrowed := true }
def VmFormsUptoSaid : Prop := vmFormsUptoRow.holds Try.pinned (OpenSpec.upto vmFormsSpec)

/-- 'lazaretlaw9.VmValid', WHERE WHAT IT READS IS OF BULK AT MOST 1048576: true; the input reads as it did. -/
def vmValidUptoRow : OpenClaim := { program := "ytocjdbenelikpaa", sum := "f56dceb3124a1861cb95a9ef798f1b0b80f54b6bb15a9a8a57ddc23b3a2f08b7", func := "lazaret/lazaretlaw9.VmValid", spec := "vmValid", unfollowed := true, recurses := true, apart := false, narrowed := true }
def VmValidUptoSaid : Prop := vmValidUptoRow.holds Try.pinned (OpenSpec.upto vmValidSpec)

/-- 'lazaretlaw9.VmMath', WHERE WHAT IT READS IS OF BULK AT MOST 1048576: true; the input reads as it did. -/
def vmMathUptoRow : OpenClaim := { program := "ytocjdbenelikpaa", sum := "f56dceb3124a1861cb95a9ef798f1b0b80f54b6bb15a9a8a57ddc23b3a2f08b7", func := "lazaret/lazaretlaw9.VmMath", spec := "vmMath", unfollowed := true, recurses := true, apart := false, narrowed := true }
def VmMathUptoSaid : Prop := vmMathUptoRow.holds Try.pinned (OpenSpec.upto vmMathSpec)

/-- 'lazaretlaw9.VmSteps', WHERE WHAT IT READS IS OF BULK AT MOST 1048576: true; the input reads as it did. -/
def vmStepsUptoRow : OpenClaim := { program := "ytocjdbenelikpaa", sum := "f56dceb3124a1861cb95a9ef798f1b0b80f54b6bb15a9a8a57ddc23b3a2f08b7", func := "lazaret/lazaretlaw9.VmSteps", spec := "vmSteps", unfollowed := true, recurses := true, apart := false, narrowed := true }
def VmStepsUptoSaid : Prop := vmStepsUptoRow.holds Try.pinned (OpenSpec.upto vmStepsSpec)

/-- 'lazaretlaw9.VmMemory', WHERE WHAT IT READS IS OF BULK AT MOST 1048576: true; the input reads as it did. -/
def vmMemoryUptoRow : OpenClaim := { program := "ytocjdbenelikpaa", sum := "f56dceb3124a1861cb95a9ef798f1b0b80f54b6bb15a9a8a57ddc23b3a2f08b7", func := "lazaret/lazaretlaw9.VmMemory", spec := "vmMemory", unfollowed := true, recurses := true, apart := false, narrowed := true }
def VmMemoryUptoSaid : Prop := vmMemoryUptoRow.holds Try.pinned (OpenSpec.upto vmMemorySpec)

/-- 'lazaretlaw9.VmCopies', WHERE WHAT IT READS IS OF BULK AT MOST 1048576: true; the input reads as it did. -/
def vmCopiesUptoRow : OpenClaim := { program := "ytocjdbenelikpaa", sum := "f56dceb3124a1861cb95a9ef798f1b0b80f54b6bb15a9a8a57ddc23b3a2f08b7", func := "lazaret/lazaretlaw9.VmCopies", spec := "vmCopies", unfollowed := true, recurses := true, apart := false, narrowed := true }
def VmCopiesUptoSaid : Prop := vmCopiesUptoRow.holds Try.pinned (OpenSpec.upto vmCopiesSpec)

/-- 'lazaretlaw9.VmPlays', WHERE WHAT IT READS IS OF BULK AT MOST 1048576: true; the input reads as it did. -/
def vmPlaysUptoRow : OpenClaim := { program := "ytocjdbenelikpaa", sum := "f56dceb3124a1861cb95a9ef798f1b0b80f54b6bb15a9a8a57ddc23b3a2f08b7", func := "lazaret/lazaretlaw9.VmPlays", spec := "vmPlays", unfollowed := true, recurses := true, apart := false, narrowed := true }
def VmPlaysUptoSaid : Prop := vmPlaysUptoRow.holds Try.pinned (OpenSpec.upto vmPlaysSpec)

end Rows
end Go.Proofs.Ytocjdbenelikpaa
