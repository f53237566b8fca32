/-
  DERIVED. GIVEN WITH THE SEED: THE CARDS: each row of YtfdchdnkblmijaaGreatDoorRows.lean that lists a variable, with what it lists TIED to the program's text (the seventh form; the later family's looks); each row that meets fmt, with fmt's text TOLD by the authors' own Lean function (tested against real Go, not proved from fmt's source: count such statements apart). THE CARD IS WHAT COUNTS. Prove the row's statement (the work); the ties are given (YtfdchdnkblmijaaGreatDoorTie.lean); close each card by the builder's one call (the guide's Derived/Test/ToyasCard.lean, 'card_holds'). Laid BY PROGRAM, IN A SANDBOX (cutbox-door.mjs). By AI agents, Wed Nov 11 2026. No macro, syntax, notation, axiom, sorry.
-/
import Derived.Test.YtfdchdnkblmijaaGreatDoorRows
import GoSem.ClaimSeven
namespace Go.Proofs.YtfdchdnkblmijaaGreatDoor
namespace Rows

/-- THE TIED CARD OF 'greatseallaw10.CascadePuts'. -/
def cascadePutsCard : Claim7 := { stood := { row := cascadePutsRow, standIns := [], harness := (true, "58be1c6274b34363ca8ee0f4118e4ced96b9cdefdb168300cdbe0069ed375771"), looks := false }, kinds := [], alts := [], laidByText := true, laidKinds := [.funcsDeep], laidTests := true, laidLooks := .later }
def CascadePutsCardSaid : Prop := Claim7.holds Tryz.pinned (.plain (OpenSpec.ofChange cascadePutsSpec)) cascadePutsCard

/-- THE SECOND FORM's CARD OF 'greatseallaw10.CascadePuts'. -/
def cascadePutsUptoCard : Claim7 := { stood := { row := cascadePutsUptoRow, standIns := [], harness := (true, "58be1c6274b34363ca8ee0f4118e4ced96b9cdefdb168300cdbe0069ed375771"), looks := false }, kinds := [], alts := [], laidByText := true, laidKinds := [.funcsDeep], laidTests := true, laidLooks := .later }
def CascadePutsUptoCardSaid : Prop := Claim7.holds Tryz.pinned (.plain (OpenSpec.upto cascadePutsSpec)) cascadePutsUptoCard
end Rows
end Go.Proofs.YtfdchdnkblmijaaGreatDoor
