/-
  DERIVED. GIVEN WITH THE SEED: THE CARDS: each row of YtedlfmjgbehgkaaGreatDoorRows.lean that lists a variable, with what it lists TIED to the program's text (the seventh form; the later family's looks); each row that meets fmt, with fmt's text TOLD by the authors' own Lean function (tested against real Go, not proved from fmt's source: count such statements apart). THE CARD IS WHAT COUNTS. Prove the row's statement (the work); the ties are given (YtedlfmjgbehgkaaGreatDoorTie.lean); close each card by the builder's one call (the guide's Derived/Test/ToyasCard.lean, 'card_holds'). Laid BY PROGRAM, IN A SANDBOX (cutbox-door.mjs). By AI agents, Wed Nov 11 2026. No macro, syntax, notation, axiom, sorry.
-/
import Derived.Test.YtedlfmjgbehgkaaGreatDoorRows
import GoSem.ClaimSeven
namespace Go.Proofs.YtedlfmjgbehgkaaGreatDoor
namespace Rows

/-- THE TIED CARD OF 'replevinlaw04.ObjectDecodes'. -/
def objectDecodesCard : Claim7 := { stood := { row := objectDecodesRow, standIns := [], harness := (true, "0868929c8592bb6586ed0850a6db411a3545ba26656c79dd8775330d0a34b0b1"), looks := true }, kinds := [], alts := [], laidByText := true, laidKinds := [.data, .data, .data, .data, .sentinel, .sentinel, .data, .pinned], laidTests := true, laidLooks := .later }
def ObjectDecodesCardSaid : Prop := Claim7.holds Tryz.pinned (.plain (OpenSpec.ofChange objectDecodesSpec)) objectDecodesCard

/-- THE TIED CARD OF 'replevinlaw04.ObjectSorts'. -/
def objectSortsCard : Claim7 := { stood := { row := objectSortsRow, standIns := [], harness := (true, "0868929c8592bb6586ed0850a6db411a3545ba26656c79dd8775330d0a34b0b1"), looks := true }, kinds := [], alts := [], laidByText := true, laidKinds := [.data, .data, .data, .data, .sentinel, .sentinel, .data, .pinned], laidTests := true, laidLooks := .later }
def ObjectSortsCardSaid : Prop := Claim7.holds Tryz.pinned (.plain (OpenSpec.ofChange objectSortsSpec)) objectSortsCard

/-- THE SECOND FORM's CARD OF 'replevinlaw04.ObjectDecodes'. -/
def objectDecodesUptoCard : Claim7 := { stood := { row := objectDecodesUptoRow, standIns := [], harness := (true, "0868929c8592bb6586ed0850a6db411a3545ba26656c79dd8775330d0a34b0b1"), looks := true }, kinds := [], alts := [], laidByText := true, laidKinds := [.data, .data, .data, .data, .sentinel, .sentinel, .data, .pinned], laidTests := true, laidLooks := .later }
def ObjectDecodesUptoCardSaid : Prop := Claim7.holds Tryz.pinned (.plain (OpenSpec.upto objectDecodesSpec)) objectDecodesUptoCard

/-- THE SECOND FORM's CARD OF 'replevinlaw04.ObjectSorts'. -/
def objectSortsUptoCard : Claim7 := { stood := { row := objectSortsUptoRow, standIns := [], harness := (true, "0868929c8592bb6586ed0850a6db411a3545ba26656c79dd8775330d0a34b0b1"), looks := true }, kinds := [], alts := [], laidByText := true, laidKinds := [.data, .data, .data, .data, .sentinel, .sentinel, .data, .pinned], laidTests := true, laidLooks := .later }
def ObjectSortsUptoCardSaid : Prop := Claim7.holds Tryz.pinned (.plain (OpenSpec.upto objectSortsSpec)) objectSortsUptoCard
end Rows
end Go.Proofs.YtedlfmjgbehgkaaGreatDoor
