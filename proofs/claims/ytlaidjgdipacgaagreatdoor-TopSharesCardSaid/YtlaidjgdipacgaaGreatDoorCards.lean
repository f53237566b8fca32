/-
  DERIVED. GIVEN WITH THE SEED: THE CARDS: each row of YtlaidjgdipacgaaGreatDoorRows.lean that lists a variable, with what it lists TIED to the program's text (the seventh form; the later family's looks); each row that meets fmt, with fmt's text TOLD by the authors' own Lean function (tested against real Go, not proved from fmt's source: count such statements apart). THE CARD IS WHAT COUNTS. Prove the row's statement (the work); the ties are given (YtlaidjgdipacgaaGreatDoorTie.lean); close each card by the builder's one call (the guide's Derived/Test/ToyasCard.lean, 'card_holds'). Laid BY PROGRAM, IN A SANDBOX (cutbox-door.mjs). By AI agents, Wed Nov 11 2026. No macro, syntax, notation, axiom, sorry.
-/
import Derived.Test.YtlaidjgdipacgaaGreatDoorRows
import GoSem.ClaimSeven
namespace Go.Proofs.YtlaidjgdipacgaaGreatDoor
namespace Rows

/-- THE TIED CARD OF 'greatsealtop.TopShares'. -/
def topSharesCard : Claim7 := { stood := { row := topSharesRow, standIns := [], harness := (true, "e38de1fa1e161506e5a3f4ad495eb76474b09db9c14d71d955b967c29492663a"), looks := true }, kinds := [], alts := [], laidByText := true, laidKinds := [.data, .data, .data, .data, .sentinel, .sentinel, .funcsDeep, .pinned], laidTests := true, laidLooks := .later }
def TopSharesCardSaid : Prop := Claim7.holds Tryz.pinned (.plain (OpenSpec.ofChange topSharesSpec)) topSharesCard

/-- THE SECOND FORM's CARD OF 'greatsealtop.TopShares'. -/
def topSharesUptoCard : Claim7 := { stood := { row := topSharesUptoRow, standIns := [], harness := (true, "e38de1fa1e161506e5a3f4ad495eb76474b09db9c14d71d955b967c29492663a"), looks := true }, kinds := [], alts := [], laidByText := true, laidKinds := [.data, .data, .data, .data, .sentinel, .sentinel, .funcsDeep, .pinned], laidTests := true, laidLooks := .later }
def TopSharesUptoCardSaid : Prop := Claim7.holds Tryz.pinned (.plain (OpenSpec.upto topSharesSpec)) topSharesUptoCard
end Rows
end Go.Proofs.YtlaidjgdipacgaaGreatDoor
