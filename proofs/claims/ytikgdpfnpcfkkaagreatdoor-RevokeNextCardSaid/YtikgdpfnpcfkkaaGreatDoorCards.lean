/-
  DERIVED. GIVEN WITH THE SEED: THE CARDS: each row of YtikgdpfnpcfkkaaGreatDoorRows.lean that lists a variable, with what it lists TIED to the program's text (the seventh form; the later family's looks); each row that meets fmt, with fmt's text TOLD by the authors' own Lean function (tested against real Go, not proved from fmt's source: count such statements apart). THE CARD IS WHAT COUNTS. Prove the row's statement (the work); the ties are given (YtikgdpfnpcfkkaaGreatDoorTie.lean); close each card by the builder's one call (the guide's Derived/Test/ToyasCard.lean, 'card_holds'). Laid BY PROGRAM, IN A SANDBOX (cutbox-door.mjs). By AI agents, Wed Nov 11 2026. No macro, syntax, notation, axiom, sorry.
-/
import Derived.Test.YtikgdpfnpcfkkaaGreatDoorRows
import GoSem.ClaimSeven
namespace Go.Proofs.YtikgdpfnpcfkkaaGreatDoor
namespace Rows

/-- THE TIED CARD OF 'greatseallaw27.RevokeNext'. -/
def revokeNextCard : Claim7 := { stood := { row := revokeNextRow, standIns := [], harness := (true, "76f2a945b5bb09cc3ca99b8b34045ae2b038582e75986908924722afa02ad3b1"), looks := false }, kinds := [], alts := [], laidByText := true, laidKinds := [.funcsDeep], laidTests := true, laidLooks := .later }
def RevokeNextCardSaid : Prop := Claim7.holds Tryz.pinned (.plain (OpenSpec.ofChange revokeNextSpec)) revokeNextCard

/-- THE SECOND FORM's CARD OF 'greatseallaw27.RevokeNext'. -/
def revokeNextUptoCard : Claim7 := { stood := { row := revokeNextUptoRow, standIns := [], harness := (true, "76f2a945b5bb09cc3ca99b8b34045ae2b038582e75986908924722afa02ad3b1"), looks := false }, kinds := [], alts := [], laidByText := true, laidKinds := [.funcsDeep], laidTests := true, laidLooks := .later }
def RevokeNextUptoCardSaid : Prop := Claim7.holds Tryz.pinned (.plain (OpenSpec.upto revokeNextSpec)) revokeNextUptoCard
end Rows
end Go.Proofs.YtikgdpfnpcfkkaaGreatDoor
