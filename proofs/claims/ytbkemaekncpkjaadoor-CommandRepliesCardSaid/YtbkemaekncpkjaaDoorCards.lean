/-
  DERIVED. GIVEN WITH THE SEED: THE CARDS: each row of YtbkemaekncpkjaaDoorRows.lean that lists a variable, with what it lists TIED to the program's text (the seventh form; the later family's looks); each row that meets fmt, with fmt's text TOLD by the authors' own Lean function (tested against real Go, not proved from fmt's source: count such statements apart). THE CARD IS WHAT COUNTS. Prove the row's statement (the work); the ties are given (YtbkemaekncpkjaaDoorTie.lean); close each card by the builder's one call (the guide's Derived/Test/ToyasCard.lean, 'card_holds'). Laid BY PROGRAM, IN A SANDBOX (cutbox-door.mjs). By AI agents, Wed Nov 11 2026. No macro, syntax, notation, axiom, sorry.
-/
import Derived.Test.YtbkemaekncpkjaaDoorRows
import GoSem.ClaimSeven
namespace Go.Proofs.YtbkemaekncpkjaaDoor
namespace Rows

/-- THE TIED CARD OF 'mailguardlaw18.CommandBack'. -/
def commandBackCard : Claim7 := { stood := { row := commandBackRow, standIns := [], harness := (true, "76ddbd36b0ab4c1e18da12dd57221a70d959a5c49cb4f4320a8fc901dfe94e69"), looks := true }, kinds := [], alts := [], laidByText := true, laidKinds := [.data, .data, .data, .data, .sentinel, .sentinel, .pinned], laidTests := true, laidLooks := .later }
def CommandBackCardSaid : Prop := Claim7.holds Tryd.pinned (.plain (OpenSpec.ofChange commandBackSpec)) commandBackCard

/-- THE TIED CARD OF 'mailguardlaw18.CommandLetters'. -/
def commandLettersCard : Claim7 := { stood := { row := commandLettersRow, standIns := [], harness := (true, "76ddbd36b0ab4c1e18da12dd57221a70d959a5c49cb4f4320a8fc901dfe94e69"), looks := true }, kinds := [], alts := [], laidByText := true, laidKinds := [.data, .data, .data, .data, .sentinel, .sentinel, .pinned], laidTests := true, laidLooks := .later }
def CommandLettersCardSaid : Prop := Claim7.holds Tryd.pinned (.plain (OpenSpec.ofChange commandLettersSpec)) commandLettersCard

/-- THE TIED CARD OF 'mailguardlaw18.CommandVerbs'. -/
def commandVerbsCard : Claim7 := { stood := { row := commandVerbsRow, standIns := [], harness := (true, "76ddbd36b0ab4c1e18da12dd57221a70d959a5c49cb4f4320a8fc901dfe94e69"), looks := true }, kinds := [], alts := [], laidByText := true, laidKinds := [.data, .data, .data, .data, .sentinel, .sentinel, .pinned], laidTests := true, laidLooks := .later }
def CommandVerbsCardSaid : Prop := Claim7.holds Tryd.pinned (.plain (OpenSpec.ofChange commandVerbsSpec)) commandVerbsCard

/-- THE TIED CARD OF 'mailguardlaw18.CommandReplies'. -/
def commandRepliesCard : Claim7 := { stood := { row := commandRepliesRow, standIns := [], harness := (true, "76ddbd36b0ab4c1e18da12dd57221a70d959a5c49cb4f4320a8fc901dfe94e69"), looks := true }, kinds := [], alts := [], laidByText := true, laidKinds := [.data, .data, .data, .data, .sentinel, .sentinel, .pinned], laidTests := true, laidLooks := .later }
def CommandRepliesCardSaid : Prop := Claim7.holds Tryd.pinned (.plain (OpenSpec.ofChange commandRepliesSpec)) commandRepliesCard

/-- THE SECOND FORM's CARD OF 'mailguardlaw18.CommandBack'. -/
def commandBackUptoCard : Claim7 := { stood := { row := commandBackUptoRow, standIns := [], harness := (true, "76ddbd36b0ab4c1e18da12dd57221a70d959a5c49cb4f4320a8fc901dfe94e69"), looks := true }, kinds := [], alts := [], laidByText := true, laidKinds := [.data, .data, .data, .data, .sentinel, .sentinel, .pinned], laidTests := true, laidLooks := .later }
def CommandBackUptoCardSaid : Prop := Claim7.holds Tryd.pinned (.plain (OpenSpec.upto commandBackSpec)) commandBackUptoCard

/-- THE SECOND FORM's CARD OF 'mailguardlaw18.CommandLetters'. -/
def commandLettersUptoCard : Claim7 := { stood := { row := commandLettersUptoRow, standIns := [], harness := (true, "76ddbd36b0ab4c1e18da12dd57221a70d959a5c49cb4f4320a8fc901dfe94e69"), looks := true }, kinds := [], alts := [], laidByText := true, laidKinds := [.data, .data, .data, .data, .sentinel, .sentinel, .pinned], laidTests := true, laidLooks := .later }
def CommandLettersUptoCardSaid : Prop := Claim7.holds Tryd.pinned (.plain (OpenSpec.upto commandLettersSpec)) commandLettersUptoCard

/-- THE SECOND FORM's CARD OF 'mailguardlaw18.CommandVerbs'. -/
def commandVerbsUptoCard : Claim7 := { stood := { row := commandVerbsUptoRow, standIns := [], harness := (true, "76ddbd36b0ab4c1e18da12dd57221a70d959a5c49cb4f4320a8fc901dfe94e69"), looks := true }, kinds := [], alts := [], laidByText := true, laidKinds := [.data, .data, .data, .data, .sentinel, .sentinel, .pinned], laidTests := true, laidLooks := .later }
def CommandVerbsUptoCardSaid : Prop := Claim7.holds Tryd.pinned (.plain (OpenSpec.upto commandVerbsSpec)) commandVerbsUptoCard

/-- THE SECOND FORM's CARD OF 'mailguardlaw18.CommandReplies'. -/
def commandRepliesUptoCard : Claim7 := { stood := { row := commandRepliesUptoRow, standIns := [], harness := (true, "76ddbd36b0ab4c1e18da12dd57221a70d959a5c49cb4f4320a8fc901dfe94e69"), looks := true }, kinds := [], alts := [], laidByText := true, laidKinds := [.data, .data, .data, .data, .sentinel, .sentinel, .pinned], laidTests := true, laidLooks := .later }
def CommandRepliesUptoCardSaid : Prop := Claim7.holds Tryd.pinned (.plain (OpenSpec.upto commandRepliesSpec)) commandRepliesUptoCard
end Rows
end Go.Proofs.YtbkemaekncpkjaaDoor
