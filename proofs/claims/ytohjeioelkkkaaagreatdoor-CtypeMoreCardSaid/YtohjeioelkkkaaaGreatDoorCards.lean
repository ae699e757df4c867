/-
  DERIVED. GIVEN WITH THE SEED: THE CARDS: each row of YtohjeioelkkkaaaGreatDoorRows.lean that lists a variable, with what it lists TIED to the program's text (the seventh form; the later family's looks); each row that meets fmt, with fmt's text TOLD by the authors' own Lean function (tested against real Go, not proved from fmt's source: count such statements apart). THE CARD IS WHAT COUNTS. Prove the row's statement (the work); the ties are given (YtohjeioelkkkaaaGreatDoorTie.lean); close each card by the builder's one call (the guide's Derived/Test/ToyasCard.lean, 'card_holds'). Laid BY PROGRAM, IN A SANDBOX (cutbox-door.mjs). By AI agents, Wed Nov 11 2026. No macro, syntax, notation, axiom, sorry.
-/
import Derived.Test.YtohjeioelkkkaaaGreatDoorRows
import GoSem.ClaimSeven
namespace Go.Proofs.YtohjeioelkkkaaaGreatDoor
namespace Rows

/-- THE TIED CARD OF 'mailguardlaw12.CtypeTells'. -/
def ctypeTellsCard : Claim7 := { stood := { row := ctypeTellsRow, standIns := [], harness := (true, "b3b6174050389db8af62141d16970a3b27197d87971823e72bd5b571d7209b58"), looks := true }, kinds := [], alts := [], laidByText := true, laidKinds := [.data, .pinned], laidTests := true, laidLooks := .later }
def CtypeTellsCardSaid : Prop := Claim7.holds Tryz.pinned (.plain (OpenSpec.ofChange ctypeTellsSpec)) ctypeTellsCard

/-- THE TIED CARD OF 'mailguardlaw12.CtypeBack'. -/
def ctypeBackCard : Claim7 := { stood := { row := ctypeBackRow, standIns := [], harness := (true, "b3b6174050389db8af62141d16970a3b27197d87971823e72bd5b571d7209b58"), looks := true }, kinds := [], alts := [], laidByText := true, laidKinds := [.data, .pinned], laidTests := true, laidLooks := .later }
def CtypeBackCardSaid : Prop := Claim7.holds Tryz.pinned (.plain (OpenSpec.ofChange ctypeBackSpec)) ctypeBackCard

/-- THE TIED CARD OF 'mailguardlaw12.CtypeMore'. -/
def ctypeMoreCard : Claim7 := { stood := { row := ctypeMoreRow, standIns := [], harness := (true, "b3b6174050389db8af62141d16970a3b27197d87971823e72bd5b571d7209b58"), looks := true }, kinds := [], alts := [], laidByText := true, laidKinds := [.data, .pinned], laidTests := true, laidLooks := .later }
def CtypeMoreCardSaid : Prop := Claim7.holds Tryz.pinned (.plain (OpenSpec.ofChange ctypeMoreSpec)) ctypeMoreCard

/-- THE TIED CARD OF 'mailguardlaw12.CtypeLetters'. -/
def ctypeLettersCard : Claim7 := { stood := { row := ctypeLettersRow, standIns := [], harness := (true, "b3b6174050389db8af62141d16970a3b27197d87971823e72bd5b571d7209b58"), looks := true }, kinds := [], alts := [], laidByText := true, laidKinds := [.data, .pinned], laidTests := true, laidLooks := .later }
def CtypeLettersCardSaid : Prop := Claim7.holds Tryz.pinned (.plain (OpenSpec.ofChange ctypeLettersSpec)) ctypeLettersCard

/-- THE TIED CARD OF 'mailguardlaw12.CtypeFind'. -/
def ctypeFindCard : Claim7 := { stood := { row := ctypeFindRow, standIns := [], harness := (true, "b3b6174050389db8af62141d16970a3b27197d87971823e72bd5b571d7209b58"), looks := true }, kinds := [], alts := [], laidByText := true, laidKinds := [.data, .pinned], laidTests := true, laidLooks := .later }
def CtypeFindCardSaid : Prop := Claim7.holds Tryz.pinned (.plain (OpenSpec.ofChange ctypeFindSpec)) ctypeFindCard

/-- THE SECOND FORM's CARD OF 'mailguardlaw12.CtypeTells'. -/
def ctypeTellsUptoCard : Claim7 := { stood := { row := ctypeTellsUptoRow, standIns := [], harness := (true, "b3b6174050389db8af62141d16970a3b27197d87971823e72bd5b571d7209b58"), looks := true }, kinds := [], alts := [], laidByText := true, laidKinds := [.data, .pinned], laidTests := true, laidLooks := .later }
def CtypeTellsUptoCardSaid : Prop := Claim7.holds Tryz.pinned (.plain (OpenSpec.upto ctypeTellsSpec)) ctypeTellsUptoCard

/-- THE SECOND FORM's CARD OF 'mailguardlaw12.CtypeBack'. -/
def ctypeBackUptoCard : Claim7 := { stood := { row := ctypeBackUptoRow, standIns := [], harness := (true, "b3b6174050389db8af62141d16970a3b27197d87971823e72bd5b571d7209b58"), looks := true }, kinds := [], alts := [], laidByText := true, laidKinds := [.data, .pinned], laidTests := true, laidLooks := .later }
def CtypeBackUptoCardSaid : Prop := Claim7.holds Tryz.pinned (.plain (OpenSpec.upto ctypeBackSpec)) ctypeBackUptoCard

/-- THE SECOND FORM's CARD OF 'mailguardlaw12.CtypeMore'. -/
def ctypeMoreUptoCard : Claim7 := { stood := { row := ctypeMoreUptoRow, standIns := [], harness := (true, "b3b6174050389db8af62141d16970a3b27197d87971823e72bd5b571d7209b58"), looks := true }, kinds := [], alts := [], laidByText := true, laidKinds := [.data, .pinned], laidTests := true, laidLooks := .later }
def CtypeMoreUptoCardSaid : Prop := Claim7.holds Tryz.pinned (.plain (OpenSpec.upto ctypeMoreSpec)) ctypeMoreUptoCard

/-- THE SECOND FORM's CARD OF 'mailguardlaw12.CtypeLetters'. -/
def ctypeLettersUptoCard : Claim7 := { stood := { row := ctypeLettersUptoRow, standIns := [], harness := (true, "b3b6174050389db8af62141d16970a3b27197d87971823e72bd5b571d7209b58"), looks := true }, kinds := [], alts := [], laidByText := true, laidKinds := [.data, .pinned], laidTests := true, laidLooks := .later }
def CtypeLettersUptoCardSaid : Prop := Claim7.holds Tryz.pinned (.plain (OpenSpec.upto ctypeLettersSpec)) ctypeLettersUptoCard

/-- THE SECOND FORM's CARD OF 'mailguardlaw12.CtypeFind'. -/
def ctypeFindUptoCard : Claim7 := { stood := { row := ctypeFindUptoRow, standIns := [], harness := (true, "b3b6174050389db8af62141d16970a3b27197d87971823e72bd5b571d7209b58"), looks := true }, kinds := [], alts := [], laidByText := true, laidKinds := [.data, .pinned], laidTests := true, laidLooks := .later }
def CtypeFindUptoCardSaid : Prop := Claim7.holds Tryz.pinned (.plain (OpenSpec.upto ctypeFindSpec)) ctypeFindUptoCard
end Rows
end Go.Proofs.YtohjeioelkkkaaaGreatDoor
