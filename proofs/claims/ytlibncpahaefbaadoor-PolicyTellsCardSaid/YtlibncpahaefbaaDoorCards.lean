/-
  DERIVED. GIVEN WITH THE SEED: THE CARDS: each row of YtlibncpahaefbaaDoorRows.lean that lists a variable, with what it lists TIED to the program's text (the seventh form; the later family's looks); each row that meets fmt, with fmt's text TOLD by the authors' own Lean function (tested against real Go, not proved from fmt's source: count such statements apart). THE CARD IS WHAT COUNTS. Prove the row's statement (the work); the ties are given (YtlibncpahaefbaaDoorTie.lean); close each card by the builder's one call (the guide's Derived/Test/ToyasCard.lean, 'card_holds'). Laid BY PROGRAM, IN A SANDBOX (cutbox-door.mjs). By AI agents, Wed Nov 11 2026. No macro, syntax, notation, axiom, sorry.
-/
import Derived.Test.YtlibncpahaefbaaDoorRows
import GoSem.ClaimSeven
namespace Go.Proofs.YtlibncpahaefbaaDoor
namespace Rows

/-- THE TIED CARD OF 'mailguardlaw19.PolicyTells'. -/
def policyTellsCard : Claim7 := { stood := { row := policyTellsRow, standIns := [], harness := (true, "d9a654cf7a4d21f6e3e6b4e1f0ac7ace4dc252808155ee77046b15cf0bbabf75"), looks := false }, kinds := [], alts := [], laidByText := true, laidKinds := [.data, .pinned], laidTests := true, laidLooks := .later }
def PolicyTellsCardSaid : Prop := Claim7.holds Tryd.pinned (.plain (OpenSpec.ofChange policyTellsSpec)) policyTellsCard

/-- THE TIED CARD OF 'mailguardlaw19.PolicyOrder'. -/
def policyOrderCard : Claim7 := { stood := { row := policyOrderRow, standIns := [], harness := (true, "d9a654cf7a4d21f6e3e6b4e1f0ac7ace4dc252808155ee77046b15cf0bbabf75"), looks := false }, kinds := [], alts := [], laidByText := true, laidKinds := [.data, .pinned], laidTests := true, laidLooks := .later }
def PolicyOrderCardSaid : Prop := Claim7.holds Tryd.pinned (.plain (OpenSpec.ofChange policyOrderSpec)) policyOrderCard

/-- THE TIED CARD OF 'mailguardlaw19.PolicyUsers'. -/
def policyUsersCard : Claim7 := { stood := { row := policyUsersRow, standIns := [], harness := (true, "d9a654cf7a4d21f6e3e6b4e1f0ac7ace4dc252808155ee77046b15cf0bbabf75"), looks := false }, kinds := [], alts := [], laidByText := true, laidKinds := [.data, .pinned], laidTests := true, laidLooks := .later }
def PolicyUsersCardSaid : Prop := Claim7.holds Tryd.pinned (.plain (OpenSpec.ofChange policyUsersSpec)) policyUsersCard

/-- THE TIED CARD OF 'mailguardlaw19.PolicyMay'. -/
def policyMayCard : Claim7 := { stood := { row := policyMayRow, standIns := [], harness := (true, "d9a654cf7a4d21f6e3e6b4e1f0ac7ace4dc252808155ee77046b15cf0bbabf75"), looks := false }, kinds := [], alts := [], laidByText := true, laidKinds := [.data, .pinned], laidTests := true, laidLooks := .later }
def PolicyMayCardSaid : Prop := Claim7.holds Tryd.pinned (.plain (OpenSpec.ofChange policyMaySpec)) policyMayCard

/-- THE SECOND FORM's CARD OF 'mailguardlaw19.PolicyTells'. -/
def policyTellsUptoCard : Claim7 := { stood := { row := policyTellsUptoRow, standIns := [], harness := (true, "d9a654cf7a4d21f6e3e6b4e1f0ac7ace4dc252808155ee77046b15cf0bbabf75"), looks := false }, kinds := [], alts := [], laidByText := true, laidKinds := [.data, .pinned], laidTests := true, laidLooks := .later }
def PolicyTellsUptoCardSaid : Prop := Claim7.holds Tryd.pinned (.plain (OpenSpec.upto policyTellsSpec)) policyTellsUptoCard

/-- THE SECOND FORM's CARD OF 'mailguardlaw19.PolicyOrder'. -/
def policyOrderUptoCard : Claim7 := { stood := { row := policyOrderUptoRow, standIns := [], harness := (true, "d9a654cf7a4d21f6e3e6b4e1f0ac7ace4dc252808155ee77046b15cf0bbabf75"), looks := false }, kinds := [], alts := [], laidByText := true, laidKinds := [.data, .pinned], laidTests := true, laidLooks := .later }
def PolicyOrderUptoCardSaid : Prop := Claim7.holds Tryd.pinned (.plain (OpenSpec.upto policyOrderSpec)) policyOrderUptoCard

/-- THE SECOND FORM's CARD OF 'mailguardlaw19.PolicyUsers'. -/
def policyUsersUptoCard : Claim7 := { stood := { row := policyUsersUptoRow, standIns := [], harness := (true, "d9a654cf7a4d21f6e3e6b4e1f0ac7ace4dc252808155ee77046b15cf0bbabf75"), looks := false }, kinds := [], alts := [], laidByText := true, laidKinds := [.data, .pinned], laidTests := true, laidLooks := .later }
def PolicyUsersUptoCardSaid : Prop := Claim7.holds Tryd.pinned (.plain (OpenSpec.upto policyUsersSpec)) policyUsersUptoCard

/-- THE SECOND FORM's CARD OF 'mailguardlaw19.PolicyMay'. -/
def policyMayUptoCard : Claim7 := { stood := { row := policyMayUptoRow, standIns := [], harness := (true, "d9a654cf7a4d21f6e3e6b4e1f0ac7ace4dc252808155ee77046b15cf0bbabf75"), looks := false }, kinds := [], alts := [], laidByText := true, laidKinds := [.data, .pinned], laidTests := true, laidLooks := .later }
def PolicyMayUptoCardSaid : Prop := Claim7.holds Tryd.pinned (.plain (OpenSpec.upto policyMaySpec)) policyMayUptoCard
end Rows
end Go.Proofs.YtlibncpahaefbaaDoor
