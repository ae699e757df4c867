/-
  DERIVED. GIVEN WITH THE SEED: THE CARDS: each row of YtnbicdeehppgpaaGreatDoorRows.lean that lists a variable, with what it lists TIED to the program's text (the seventh form; the later family's looks); each row that meets fmt, with fmt's text TOLD by the authors' own Lean function (tested against real Go, not proved from fmt's source: count such statements apart). THE CARD IS WHAT COUNTS. Prove the row's statement (the work); the ties are given (YtnbicdeehppgpaaGreatDoorTie.lean); close each card by the builder's one call (the guide's Derived/Test/ToyasCard.lean, 'card_holds'). Laid BY PROGRAM, IN A SANDBOX (cutbox-door.mjs). By AI agents, Wed Nov 11 2026. No macro, syntax, notation, axiom, sorry.
-/
import Derived.Test.YtnbicdeehppgpaaGreatDoorRows
import GoSem.ClaimSeven
namespace Go.Proofs.YtnbicdeehppgpaaGreatDoor
namespace Rows

/-- THE TIED CARD OF 'mailguardlaw12.CtypeTells'. -/
def ctypeTellsCard : Claim7 := { stood := { row := ctypeTellsRow, standIns := [], harness := (true, "6b1f37510605b5550b821d623628320194ae35c7f3cd463c84435b7c7f2dce35"), looks := true }, kinds := [], alts := [], laidByText := true, laidKinds := [.data, .pinned], laidTests := true, laidLooks := .later }
def CtypeTellsCardSaid : Prop := Claim7.holds Tryz.pinned (.plain (OpenSpec.ofChange ctypeTellsSpec)) ctypeTellsCard

/-- THE SECOND FORM's CARD OF 'mailguardlaw12.CtypeTells'. -/
def ctypeTellsUptoCard : Claim7 := { stood := { row := ctypeTellsUptoRow, standIns := [], harness := (true, "6b1f37510605b5550b821d623628320194ae35c7f3cd463c84435b7c7f2dce35"), looks := true }, kinds := [], alts := [], laidByText := true, laidKinds := [.data, .pinned], laidTests := true, laidLooks := .later }
def CtypeTellsUptoCardSaid : Prop := Claim7.holds Tryz.pinned (.plain (OpenSpec.upto ctypeTellsSpec)) ctypeTellsUptoCard
end Rows
end Go.Proofs.YtnbicdeehppgpaaGreatDoor
