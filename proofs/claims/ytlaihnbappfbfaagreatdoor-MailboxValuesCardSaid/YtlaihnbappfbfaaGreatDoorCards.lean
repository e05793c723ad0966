/-
  DERIVED. GIVEN WITH THE SEED: THE CARDS: each row of YtlaihnbappfbfaaGreatDoorRows.lean that lists a variable, with what it lists TIED to the program's text (the seventh form; the later family's looks); each row that meets fmt, with fmt's text TOLD by the authors' own Lean function (tested against real Go, not proved from fmt's source: count such statements apart). THE CARD IS WHAT COUNTS. Prove the row's statement (the work); the ties are given (YtlaihnbappfbfaaGreatDoorTie.lean); close each card by the builder's one call (the guide's Derived/Test/ToyasCard.lean, 'card_holds'). Laid BY PROGRAM, IN A SANDBOX (cutbox-door.mjs). By AI agents, Wed Nov 11 2026. No macro, syntax, notation, axiom, sorry.
-/
import Derived.Test.YtlaihnbappfbfaaGreatDoorRows
import GoSem.ClaimSeven
namespace Go.Proofs.YtlaihnbappfbfaaGreatDoor
namespace Rows

/-- THE TIED CARD OF 'replevinlaw38.MailboxAddresses'. -/
def mailboxAddressesCard : Claim7 := { stood := { row := mailboxAddressesRow, standIns := [], harness := (true, "16e04b311f33d060bc106180dd2eea7d1dbf36eaaa65ec193247d04cef9db3ce"), looks := false }, kinds := [], alts := [], laidByText := true, laidKinds := [.data, .data, .data, .data, .data, .data], laidTests := true, laidLooks := .later }
def MailboxAddressesCardSaid : Prop := Claim7.holds Tryz.pinned (.plain (OpenSpec.ofChange mailboxAddressesSpec)) mailboxAddressesCard

/-- THE TIED CARD OF 'replevinlaw38.MailboxJoins'. -/
def mailboxJoinsCard : Claim7 := { stood := { row := mailboxJoinsRow, standIns := [], harness := (true, "16e04b311f33d060bc106180dd2eea7d1dbf36eaaa65ec193247d04cef9db3ce"), looks := false }, kinds := [], alts := [], laidByText := true, laidKinds := [.data, .data, .data, .data, .data, .data], laidTests := true, laidLooks := .later }
def MailboxJoinsCardSaid : Prop := Claim7.holds Tryz.pinned (.plain (OpenSpec.ofChange mailboxJoinsSpec)) mailboxJoinsCard

/-- THE TIED CARD OF 'replevinlaw38.MailboxValues'. -/
def mailboxValuesCard : Claim7 := { stood := { row := mailboxValuesRow, standIns := [], harness := (true, "16e04b311f33d060bc106180dd2eea7d1dbf36eaaa65ec193247d04cef9db3ce"), looks := false }, kinds := [], alts := [], laidByText := true, laidKinds := [.data, .data, .data, .data, .data, .data], laidTests := true, laidLooks := .later }
def MailboxValuesCardSaid : Prop := Claim7.holds Tryz.pinned (.plain (OpenSpec.ofChange mailboxValuesSpec)) mailboxValuesCard

/-- THE TIED CARD OF 'replevinlaw38.MailboxDecodes'. -/
def mailboxDecodesCard : Claim7 := { stood := { row := mailboxDecodesRow, standIns := [], harness := (true, "16e04b311f33d060bc106180dd2eea7d1dbf36eaaa65ec193247d04cef9db3ce"), looks := false }, kinds := [], alts := [], laidByText := true, laidKinds := [.data, .data, .data, .data, .data, .data], laidTests := true, laidLooks := .later }
def MailboxDecodesCardSaid : Prop := Claim7.holds Tryz.pinned (.plain (OpenSpec.ofChange mailboxDecodesSpec)) mailboxDecodesCard

/-- THE TIED CARD OF 'replevinlaw38.MailboxNumbers'. -/
def mailboxNumbersCard : Claim7 := { stood := { row := mailboxNumbersRow, standIns := [], harness := (true, "16e04b311f33d060bc106180dd2eea7d1dbf36eaaa65ec193247d04cef9db3ce"), looks := false }, kinds := [], alts := [], laidByText := true, laidKinds := [.data, .data, .data, .data, .data, .data], laidTests := true, laidLooks := .later }
def MailboxNumbersCardSaid : Prop := Claim7.holds Tryz.pinned (.plain (OpenSpec.ofChange mailboxNumbersSpec)) mailboxNumbersCard

/-- THE TIED CARD OF 'replevinlaw38.MailboxFull'. -/
def mailboxFullCard : Claim7 := { stood := { row := mailboxFullRow, standIns := [], harness := (true, "16e04b311f33d060bc106180dd2eea7d1dbf36eaaa65ec193247d04cef9db3ce"), looks := false }, kinds := [], alts := [], laidByText := true, laidKinds := [.data, .data, .data, .data, .data, .data], laidTests := true, laidLooks := .later }
def MailboxFullCardSaid : Prop := Claim7.holds Tryz.pinned (.plain (OpenSpec.ofChange mailboxFullSpec)) mailboxFullCard

/-- THE TIED CARD OF 'replevinlaw38.MailboxFresh'. -/
def mailboxFreshCard : Claim7 := { stood := { row := mailboxFreshRow, standIns := [], harness := (true, "16e04b311f33d060bc106180dd2eea7d1dbf36eaaa65ec193247d04cef9db3ce"), looks := false }, kinds := [], alts := [], laidByText := true, laidKinds := [.data, .data, .data, .data, .data, .data], laidTests := true, laidLooks := .later }
def MailboxFreshCardSaid : Prop := Claim7.holds Tryz.pinned (.plain (OpenSpec.ofChange mailboxFreshSpec)) mailboxFreshCard

/-- THE TIED CARD OF 'replevinlaw38.MailboxOperations'. -/
def mailboxOperationsCard : Claim7 := { stood := { row := mailboxOperationsRow, standIns := [], harness := (true, "16e04b311f33d060bc106180dd2eea7d1dbf36eaaa65ec193247d04cef9db3ce"), looks := false }, kinds := [], alts := [], laidByText := true, laidKinds := [.data, .data, .data, .data, .data, .data], laidTests := true, laidLooks := .later }
def MailboxOperationsCardSaid : Prop := Claim7.holds Tryz.pinned (.plain (OpenSpec.ofChange mailboxOperationsSpec)) mailboxOperationsCard

/-- THE TIED CARD OF 'replevinlaw38.MailboxErrors'. -/
def mailboxErrorsCard : Claim7 := { stood := { row := mailboxErrorsRow, standIns := [], harness := (true, "16e04b311f33d060bc106180dd2eea7d1dbf36eaaa65ec193247d04cef9db3ce"), looks := false }, kinds := [], alts := [], laidByText := true, laidKinds := [.data, .data, .data, .data, .data, .data], laidTests := true, laidLooks := .later }
def MailboxErrorsCardSaid : Prop := Claim7.holds Tryz.pinned (.plain (OpenSpec.ofChange mailboxErrorsSpec)) mailboxErrorsCard

/-- THE TIED CARD OF 'replevinlaw38.MailboxLocal'. -/
def mailboxLocalCard : Claim7 := { stood := { row := mailboxLocalRow, standIns := [], harness := (true, "16e04b311f33d060bc106180dd2eea7d1dbf36eaaa65ec193247d04cef9db3ce"), looks := false }, kinds := [], alts := [], laidByText := true, laidKinds := [.data, .data, .data, .data, .data, .data], laidTests := true, laidLooks := .later }
def MailboxLocalCardSaid : Prop := Claim7.holds Tryz.pinned (.plain (OpenSpec.ofChange mailboxLocalSpec)) mailboxLocalCard

/-- THE SECOND FORM's CARD OF 'replevinlaw38.MailboxAddresses'. -/
def mailboxAddressesUptoCard : Claim7 := { stood := { row := mailboxAddressesUptoRow, standIns := [], harness := (true, "16e04b311f33d060bc106180dd2eea7d1dbf36eaaa65ec193247d04cef9db3ce"), looks := false }, kinds := [], alts := [], laidByText := true, laidKinds := [.data, .data, .data, .data, .data, .data], laidTests := true, laidLooks := .later }
def MailboxAddressesUptoCardSaid : Prop := Claim7.holds Tryz.pinned (.plain (OpenSpec.upto mailboxAddressesSpec)) mailboxAddressesUptoCard

/-- THE SECOND FORM's CARD OF 'replevinlaw38.MailboxJoins'. -/
def mailboxJoinsUptoCard : Claim7 := { stood := { row := mailboxJoinsUptoRow, standIns := [], harness := (true, "16e04b311f33d060bc106180dd2eea7d1dbf36eaaa65ec193247d04cef9db3ce"), looks := false }, kinds := [], alts := [], laidByText := true, laidKinds := [.data, .data, .data, .data, .data, .data], laidTests := true, laidLooks := .later }
def MailboxJoinsUptoCardSaid : Prop := Claim7.holds Tryz.pinned (.plain (OpenSpec.upto mailboxJoinsSpec)) mailboxJoinsUptoCard

/-- THE SECOND FORM's CARD OF 'replevinlaw38.MailboxValues'. -/
def mailboxValuesUptoCard : Claim7 := { stood := { row := mailboxValuesUptoRow, standIns := [], harness := (true, "16e04b311f33d060bc106180dd2eea7d1dbf36eaaa65ec193247d04cef9db3ce"), looks := false }, kinds := [], alts := [], laidByText := true, laidKinds := [.data, .data, .data, .data, .data, .data], laidTests := true, laidLooks := .later }
def MailboxValuesUptoCardSaid : Prop := Claim7.holds Tryz.pinned (.plain (OpenSpec.upto mailboxValuesSpec)) mailboxValuesUptoCard

/-- THE SECOND FORM's CARD OF 'replevinlaw38.MailboxDecodes'. -/
def mailboxDecodesUptoCard : Claim7 := { stood := { row := mailboxDecodesUptoRow, standIns := [], harness := (true, "16e04b311f33d060bc106180dd2eea7d1dbf36eaaa65ec193247d04cef9db3ce"), looks := false }, kinds := [], alts := [], laidByText := true, laidKinds := [.data, .data, .data, .data, .data, .data], laidTests := true, laidLooks := .later }
def MailboxDecodesUptoCardSaid : Prop := Claim7.holds Tryz.pinned (.plain (OpenSpec.upto mailboxDecodesSpec)) mailboxDecodesUptoCard

/-- THE SECOND FORM's CARD OF 'replevinlaw38.MailboxNumbers'. -/
def mailboxNumbersUptoCard : Claim7 := { stood := { row := mailboxNumbersUptoRow, standIns := [], harness := (true, "16e04b311f33d060bc106180dd2eea7d1dbf36eaaa65ec193247d04cef9db3ce"), looks := false }, kinds := [], alts := [], laidByText := true, laidKinds := [.data, .data, .data, .data, .data, .data], laidTests := true, laidLooks := .later }
def MailboxNumbersUptoCardSaid : Prop := Claim7.holds Tryz.pinned (.plain (OpenSpec.upto mailboxNumbersSpec)) mailboxNumbersUptoCard

/-- THE SECOND FORM's CARD OF 'replevinlaw38.MailboxFull'. -/
def mailboxFullUptoCard : Claim7 := { stood := { row := mailboxFullUptoRow, standIns := [], harness := (true, "16e04b311f33d060bc106180dd2eea7d1dbf36eaaa65ec193247d04cef9db3ce"), looks := false }, kinds := [], alts := [], laidByText := true, laidKinds := [.data, .data, .data, .data, .data, .data], laidTests := true, laidLooks := .later }
def MailboxFullUptoCardSaid : Prop := Claim7.holds Tryz.pinned (.plain (OpenSpec.upto mailboxFullSpec)) mailboxFullUptoCard

/-- THE SECOND FORM's CARD OF 'replevinlaw38.MailboxFresh'. -/
def mailboxFreshUptoCard : Claim7 := { stood := { row := mailboxFreshUptoRow, standIns := [], harness := (true, "16e04b311f33d060bc106180dd2eea7d1dbf36eaaa65ec193247d04cef9db3ce"), looks := false }, kinds := [], alts := [], laidByText := true, laidKinds := [.data, .data, .data, .data, .data, .data], laidTests := true, laidLooks := .later }
def MailboxFreshUptoCardSaid : Prop := Claim7.holds Tryz.pinned (.plain (OpenSpec.upto mailboxFreshSpec)) mailboxFreshUptoCard

/-- THE SECOND FORM's CARD OF 'replevinlaw38.MailboxOperations'. -/
def mailboxOperationsUptoCard : Claim7 := { stood := { row := mailboxOperationsUptoRow, standIns := [], harness := (true, "16e04b311f33d060bc106180dd2eea7d1dbf36eaaa65ec193247d04cef9db3ce"), looks := false }, kinds := [], alts := [], laidByText := true, laidKinds := [.data, .data, .data, .data, .data, .data], laidTests := true, laidLooks := .later }
def MailboxOperationsUptoCardSaid : Prop := Claim7.holds Tryz.pinned (.plain (OpenSpec.upto mailboxOperationsSpec)) mailboxOperationsUptoCard

/-- THE SECOND FORM's CARD OF 'replevinlaw38.MailboxErrors'. -/
def mailboxErrorsUptoCard : Claim7 := { stood := { row := mailboxErrorsUptoRow, standIns := [], harness := (true, "16e04b311f33d060bc106180dd2eea7d1dbf36eaaa65ec193247d04cef9db3ce"), looks := false }, kinds := [], alts := [], laidByText := true, laidKinds := [.data, .data, .data, .data, .data, .data], laidTests := true, laidLooks := .later }
def MailboxErrorsUptoCardSaid : Prop := Claim7.holds Tryz.pinned (.plain (OpenSpec.upto mailboxErrorsSpec)) mailboxErrorsUptoCard

/-- THE SECOND FORM's CARD OF 'replevinlaw38.MailboxLocal'. -/
def mailboxLocalUptoCard : Claim7 := { stood := { row := mailboxLocalUptoRow, standIns := [], harness := (true, "16e04b311f33d060bc106180dd2eea7d1dbf36eaaa65ec193247d04cef9db3ce"), looks := false }, kinds := [], alts := [], laidByText := true, laidKinds := [.data, .data, .data, .data, .data, .data], laidTests := true, laidLooks := .later }
def MailboxLocalUptoCardSaid : Prop := Claim7.holds Tryz.pinned (.plain (OpenSpec.upto mailboxLocalSpec)) mailboxLocalUptoCard
end Rows
end Go.Proofs.YtlaihnbappfbfaaGreatDoor
