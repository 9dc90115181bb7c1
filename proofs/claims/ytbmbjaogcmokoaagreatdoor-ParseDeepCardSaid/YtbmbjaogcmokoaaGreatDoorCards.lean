/-
  DERIVED. GIVEN WITH THE SEED: THE CARDS: each row of YtbmbjaogcmokoaaGreatDoorRows.lean that lists a variable, with what it lists TIED to the program's text (the seventh form; the later family's looks); each row that meets fmt, with fmt's text TOLD by the authors' own Lean function (tested against real Go, not proved from fmt's source: count such statements apart). THE CARD IS WHAT COUNTS. Prove the row's statement (the work); the ties are given (YtbmbjaogcmokoaaGreatDoorTie.lean); close each card by the builder's one call (the guide's Derived/Test/ToyasCard.lean, 'card_holds'). Laid BY PROGRAM, IN A SANDBOX (cutbox-door.mjs). By AI agents, Wed Nov 11 2026. No macro, syntax, notation, axiom, sorry.
-/
import Derived.Test.YtbmbjaogcmokoaaGreatDoorRows
import GoSem.ClaimSeven
namespace Go.Proofs.YtbmbjaogcmokoaaGreatDoor
namespace Rows

/-- THE TIED CARD OF 'lexiconlaw05.ParseNumbers'. -/
def parseNumbersCard : Claim7 := { stood := { row := parseNumbersRow, standIns := [], harness := (true, "f0dbf6913ab1a4d33d6c8e951ccfe177cf8dd19404e4c0b2e480b98404b1f2f8"), looks := true }, kinds := [], alts := [], laidByText := true, laidKinds := [.data, .data, .widerDeep, .widerDeep, .data, .data, .data, .data, .data, .data, .sentinel, .sentinel, .pinned, .pinned, .pinned], laidTests := true, laidLooks := .later }
def ParseNumbersCardSaid : Prop := Claim7.holds Tryz.pinned (.plain (OpenSpec.ofChange parseNumbersSpec)) parseNumbersCard

/-- THE TIED CARD OF 'lexiconlaw05.ParseDeep'. -/
def parseDeepCard : Claim7 := { stood := { row := parseDeepRow, standIns := [], harness := (true, "f0dbf6913ab1a4d33d6c8e951ccfe177cf8dd19404e4c0b2e480b98404b1f2f8"), looks := true }, kinds := [], alts := [], laidByText := true, laidKinds := [.data, .data, .widerDeep, .widerDeep, .data, .data, .data, .data, .data, .data, .sentinel, .sentinel, .pinned, .pinned, .pinned], laidTests := true, laidLooks := .later }
def ParseDeepCardSaid : Prop := Claim7.holds Tryz.pinned (.plain (OpenSpec.ofChange parseDeepSpec)) parseDeepCard

/-- THE SECOND FORM's CARD OF 'lexiconlaw05.ParseNumbers'. -/
def parseNumbersUptoCard : Claim7 := { stood := { row := parseNumbersUptoRow, standIns := [], harness := (true, "f0dbf6913ab1a4d33d6c8e951ccfe177cf8dd19404e4c0b2e480b98404b1f2f8"), looks := true }, kinds := [], alts := [], laidByText := true, laidKinds := [.data, .data, .widerDeep, .widerDeep, .data, .data, .data, .data, .data, .data, .sentinel, .sentinel, .pinned, .pinned, .pinned], laidTests := true, laidLooks := .later }
def ParseNumbersUptoCardSaid : Prop := Claim7.holds Tryz.pinned (.plain (OpenSpec.upto parseNumbersSpec)) parseNumbersUptoCard

/-- THE SECOND FORM's CARD OF 'lexiconlaw05.ParseDeep'. -/
def parseDeepUptoCard : Claim7 := { stood := { row := parseDeepUptoRow, standIns := [], harness := (true, "f0dbf6913ab1a4d33d6c8e951ccfe177cf8dd19404e4c0b2e480b98404b1f2f8"), looks := true }, kinds := [], alts := [], laidByText := true, laidKinds := [.data, .data, .widerDeep, .widerDeep, .data, .data, .data, .data, .data, .data, .sentinel, .sentinel, .pinned, .pinned, .pinned], laidTests := true, laidLooks := .later }
def ParseDeepUptoCardSaid : Prop := Claim7.holds Tryz.pinned (.plain (OpenSpec.upto parseDeepSpec)) parseDeepUptoCard
end Rows
end Go.Proofs.YtbmbjaogcmokoaaGreatDoor
