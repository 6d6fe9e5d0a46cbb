/-
  DERIVED. GIVEN WITH THE SEED: THE CARDS: each row of YtfgbbmnmblchiaaDoorRows.lean that lists a variable, with what it lists TIED to the program's text (the seventh form; the later family's looks); each row that meets fmt, with fmt's text TOLD by the authors' own Lean function (tested against real Go, not proved from fmt's source: count such statements apart). THE CARD IS WHAT COUNTS. Prove the row's statement (the work); the ties are given (YtfgbbmnmblchiaaDoorTie.lean); close each card by the builder's one call (the guide's Derived/Test/ToyasCard.lean, 'card_holds'). Laid BY PROGRAM, IN A SANDBOX (cutbox-door.mjs). By AI agents, Wed Nov 11 2026. No macro, syntax, notation, axiom, sorry.
-/
import Derived.Test.YtfgbbmnmblchiaaDoorRows
import GoSem.ClaimSeven
namespace Go.Proofs.YtfgbbmnmblchiaaDoor
namespace Rows

/-- THE TIED CARD OF 'lazaretlaw18.ParseChains'. -/
def parseChainsCard : Claim7 := { stood := { row := parseChainsRow, standIns := [], harness := (true, "e15536ccca34f821531e199fb6034f1e518aab03b84be31b042aa610889fe621"), looks := false }, kinds := [], alts := [], laidByText := true, laidKinds := [.data, .pinned], laidTests := true, laidLooks := .later }
def ParseChainsCardSaid : Prop := Claim7.holds Tryd.pinned (.plain (OpenSpec.ofChange parseChainsSpec)) parseChainsCard

/-- THE TIED CARD OF 'lazaretlaw18.ParseProgram'. -/
def parseProgramCard : Claim7 := { stood := { row := parseProgramRow, standIns := [], harness := (true, "e15536ccca34f821531e199fb6034f1e518aab03b84be31b042aa610889fe621"), looks := false }, kinds := [], alts := [], laidByText := true, laidKinds := [.data, .pinned], laidTests := true, laidLooks := .later }
def ParseProgramCardSaid : Prop := Claim7.holds Tryd.pinned (.plain (OpenSpec.ofChange parseProgramSpec)) parseProgramCard

/-- THE TIED CARD OF 'lazaretlaw18.ParseDepth'. -/
def parseDepthCard : Claim7 := { stood := { row := parseDepthRow, standIns := [], harness := (true, "e15536ccca34f821531e199fb6034f1e518aab03b84be31b042aa610889fe621"), looks := false }, kinds := [], alts := [], laidByText := true, laidKinds := [.data, .pinned], laidTests := true, laidLooks := .later }
def ParseDepthCardSaid : Prop := Claim7.holds Tryd.pinned (.plain (OpenSpec.ofChange parseDepthSpec)) parseDepthCard

/-- THE TIED CARD OF 'lazaretlaw18.ParseWords'. -/
def parseWordsCard : Claim7 := { stood := { row := parseWordsRow, standIns := [], harness := (true, "e15536ccca34f821531e199fb6034f1e518aab03b84be31b042aa610889fe621"), looks := false }, kinds := [], alts := [], laidByText := true, laidKinds := [.data, .pinned], laidTests := true, laidLooks := .later }
def ParseWordsCardSaid : Prop := Claim7.holds Tryd.pinned (.plain (OpenSpec.ofChange parseWordsSpec)) parseWordsCard

/-- THE SECOND FORM's CARD OF 'lazaretlaw18.ParseChains'. -/
def parseChainsUptoCard : Claim7 := { stood := { row := parseChainsUptoRow, standIns := [], harness := (true, "e15536ccca34f821531e199fb6034f1e518aab03b84be31b042aa610889fe621"), looks := false }, kinds := [], alts := [], laidByText := true, laidKinds := [.data, .pinned], laidTests := true, laidLooks := .later }
def ParseChainsUptoCardSaid : Prop := Claim7.holds Tryd.pinned (.plain (OpenSpec.upto parseChainsSpec)) parseChainsUptoCard

/-- THE SECOND FORM's CARD OF 'lazaretlaw18.ParseProgram'. -/
def parseProgramUptoCard : Claim7 := { stood := { row := parseProgramUptoRow, standIns := [], harness := (true, "e15536ccca34f821531e199fb6034f1e518aab03b84be31b042aa610889fe621"), looks := false }, kinds := [], alts := [], laidByText := true, laidKinds := [.data, .pinned], laidTests := true, laidLooks := .later }
def ParseProgramUptoCardSaid : Prop := Claim7.holds Tryd.pinned (.plain (OpenSpec.upto parseProgramSpec)) parseProgramUptoCard

/-- THE SECOND FORM's CARD OF 'lazaretlaw18.ParseDepth'. -/
def parseDepthUptoCard : Claim7 := { stood := { row := parseDepthUptoRow, standIns := [], harness := (true, "e15536ccca34f821531e199fb6034f1e518aab03b84be31b042aa610889fe621"), looks := false }, kinds := [], alts := [], laidByText := true, laidKinds := [.data, .pinned], laidTests := true, laidLooks := .later }
def ParseDepthUptoCardSaid : Prop := Claim7.holds Tryd.pinned (.plain (OpenSpec.upto parseDepthSpec)) parseDepthUptoCard

/-- THE SECOND FORM's CARD OF 'lazaretlaw18.ParseWords'. -/
def parseWordsUptoCard : Claim7 := { stood := { row := parseWordsUptoRow, standIns := [], harness := (true, "e15536ccca34f821531e199fb6034f1e518aab03b84be31b042aa610889fe621"), looks := false }, kinds := [], alts := [], laidByText := true, laidKinds := [.data, .pinned], laidTests := true, laidLooks := .later }
def ParseWordsUptoCardSaid : Prop := Claim7.holds Tryd.pinned (.plain (OpenSpec.upto parseWordsSpec)) parseWordsUptoCard
end Rows
end Go.Proofs.YtfgbbmnmblchiaaDoor
