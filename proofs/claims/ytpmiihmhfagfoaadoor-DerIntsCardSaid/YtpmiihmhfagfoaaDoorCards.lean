/-
  DERIVED. GIVEN WITH THE SEED: THE CARDS: each row of YtpmiihmhfagfoaaDoorRows.lean that lists a variable, with what it lists TIED to the program's text (the seventh form; the later family's looks); each row that meets fmt, with fmt's text TOLD by the authors' own Lean function (tested against real Go, not proved from fmt's source: count such statements apart). THE CARD IS WHAT COUNTS. Prove the row's statement (the work); the ties are given (YtpmiihmhfagfoaaDoorTie.lean); close each card by the builder's one call (the guide's Derived/Test/ToyasCard.lean, 'card_holds'). Laid BY PROGRAM, IN A SANDBOX (cutbox-door.mjs). By AI agents, Wed Nov 11 2026. No macro, syntax, notation, axiom, sorry.
-/
import Derived.Test.YtpmiihmhfagfoaaDoorRows
import GoSem.ClaimSeven
namespace Go.Proofs.YtpmiihmhfagfoaaDoor
namespace Rows

/-- THE TIED CARD OF 'greatseallaw07.DerPuts'. -/
def derPutsCard : Claim7 := { stood := { row := derPutsRow, standIns := [], harness := (true, "49a436707069bd576c8003e8917f67bedfd21e7996df197604c30895077fbcb7"), looks := false }, kinds := [], alts := [], laidByText := true, laidKinds := [.funcsDeep], laidTests := true, laidLooks := .later }
def DerPutsCardSaid : Prop := Claim7.holds Tryd.pinned (.plain (OpenSpec.ofChange derPutsSpec)) derPutsCard

/-- THE TIED CARD OF 'greatseallaw07.DerGets'. -/
def derGetsCard : Claim7 := { stood := { row := derGetsRow, standIns := [], harness := (true, "49a436707069bd576c8003e8917f67bedfd21e7996df197604c30895077fbcb7"), looks := false }, kinds := [], alts := [], laidByText := true, laidKinds := [.funcsDeep], laidTests := true, laidLooks := .later }
def DerGetsCardSaid : Prop := Claim7.holds Tryd.pinned (.plain (OpenSpec.ofChange derGetsSpec)) derGetsCard

/-- THE TIED CARD OF 'greatseallaw07.DerBack'. -/
def derBackCard : Claim7 := { stood := { row := derBackRow, standIns := [], harness := (true, "49a436707069bd576c8003e8917f67bedfd21e7996df197604c30895077fbcb7"), looks := false }, kinds := [], alts := [], laidByText := true, laidKinds := [.funcsDeep], laidTests := true, laidLooks := .later }
def DerBackCardSaid : Prop := Claim7.holds Tryd.pinned (.plain (OpenSpec.ofChange derBackSpec)) derBackCard

/-- THE TIED CARD OF 'greatseallaw07.DerOnly'. -/
def derOnlyCard : Claim7 := { stood := { row := derOnlyRow, standIns := [], harness := (true, "49a436707069bd576c8003e8917f67bedfd21e7996df197604c30895077fbcb7"), looks := false }, kinds := [], alts := [], laidByText := true, laidKinds := [.funcsDeep], laidTests := true, laidLooks := .later }
def DerOnlyCardSaid : Prop := Claim7.holds Tryd.pinned (.plain (OpenSpec.ofChange derOnlySpec)) derOnlyCard

/-- THE TIED CARD OF 'greatseallaw07.DerShort'. -/
def derShortCard : Claim7 := { stood := { row := derShortRow, standIns := [], harness := (true, "49a436707069bd576c8003e8917f67bedfd21e7996df197604c30895077fbcb7"), looks := false }, kinds := [], alts := [], laidByText := true, laidKinds := [.funcsDeep], laidTests := true, laidLooks := .later }
def DerShortCardSaid : Prop := Claim7.holds Tryd.pinned (.plain (OpenSpec.ofChange derShortSpec)) derShortCard

/-- THE TIED CARD OF 'greatseallaw07.DerInts'. -/
def derIntsCard : Claim7 := { stood := { row := derIntsRow, standIns := [], harness := (true, "49a436707069bd576c8003e8917f67bedfd21e7996df197604c30895077fbcb7"), looks := false }, kinds := [], alts := [], laidByText := true, laidKinds := [.funcsDeep], laidTests := true, laidLooks := .later }
def DerIntsCardSaid : Prop := Claim7.holds Tryd.pinned (.plain (OpenSpec.ofChange derIntsSpec)) derIntsCard

/-- THE TIED CARD OF 'greatseallaw07.DerSeqs'. -/
def derSeqsCard : Claim7 := { stood := { row := derSeqsRow, standIns := [], harness := (true, "49a436707069bd576c8003e8917f67bedfd21e7996df197604c30895077fbcb7"), looks := false }, kinds := [], alts := [], laidByText := true, laidKinds := [.funcsDeep], laidTests := true, laidLooks := .later }
def DerSeqsCardSaid : Prop := Claim7.holds Tryd.pinned (.plain (OpenSpec.ofChange derSeqsSpec)) derSeqsCard

/-- THE TIED CARD OF 'greatseallaw07.DerTells'. -/
def derTellsCard : Claim7 := { stood := { row := derTellsRow, standIns := [], harness := (true, "49a436707069bd576c8003e8917f67bedfd21e7996df197604c30895077fbcb7"), looks := false }, kinds := [], alts := [], laidByText := true, laidKinds := [.funcsDeep], laidTests := true, laidLooks := .later }
def DerTellsCardSaid : Prop := Claim7.holds Tryd.pinned (.plain (OpenSpec.ofChange derTellsSpec)) derTellsCard

/-- THE TIED CARD OF 'greatseallaw07.DerMakes'. -/
def derMakesCard : Claim7 := { stood := { row := derMakesRow, standIns := [], harness := (true, "49a436707069bd576c8003e8917f67bedfd21e7996df197604c30895077fbcb7"), looks := false }, kinds := [], alts := [], laidByText := true, laidKinds := [.funcsDeep], laidTests := true, laidLooks := .later }
def DerMakesCardSaid : Prop := Claim7.holds Tryd.pinned (.plain (OpenSpec.ofChange derMakesSpec)) derMakesCard

/-- THE SECOND FORM's CARD OF 'greatseallaw07.DerPuts'. -/
def derPutsUptoCard : Claim7 := { stood := { row := derPutsUptoRow, standIns := [], harness := (true, "49a436707069bd576c8003e8917f67bedfd21e7996df197604c30895077fbcb7"), looks := false }, kinds := [], alts := [], laidByText := true, laidKinds := [.funcsDeep], laidTests := true, laidLooks := .later }
def DerPutsUptoCardSaid : Prop := Claim7.holds Tryd.pinned (.plain (OpenSpec.upto derPutsSpec)) derPutsUptoCard

/-- THE SECOND FORM's CARD OF 'greatseallaw07.DerGets'. -/
def derGetsUptoCard : Claim7 := { stood := { row := derGetsUptoRow, standIns := [], harness := (true, "49a436707069bd576c8003e8917f67bedfd21e7996df197604c30895077fbcb7"), looks := false }, kinds := [], alts := [], laidByText := true, laidKinds := [.funcsDeep], laidTests := true, laidLooks := .later }
def DerGetsUptoCardSaid : Prop := Claim7.holds Tryd.pinned (.plain (OpenSpec.upto derGetsSpec)) derGetsUptoCard

/-- THE SECOND FORM's CARD OF 'greatseallaw07.DerBack'. -/
def derBackUptoCard : Claim7 := { stood := { row := derBackUptoRow, standIns := [], harness := (true, "49a436707069bd576c8003e8917f67bedfd21e7996df197604c30895077fbcb7"), looks := false }, kinds := [], alts := [], laidByText := true, laidKinds := [.funcsDeep], laidTests := true, laidLooks := .later }
def DerBackUptoCardSaid : Prop := Claim7.holds Tryd.pinned (.plain (OpenSpec.upto derBackSpec)) derBackUptoCard

/-- THE SECOND FORM's CARD OF 'greatseallaw07.DerOnly'. -/
def derOnlyUptoCard : Claim7 := { stood := { row := derOnlyUptoRow, standIns := [], harness := (true, "49a436707069bd576c8003e8917f67bedfd21e7996df197604c30895077fbcb7"), looks := false }, kinds := [], alts := [], laidByText := true, laidKinds := [.funcsDeep], laidTests := true, laidLooks := .later }
def DerOnlyUptoCardSaid : Prop := Claim7.holds Tryd.pinned (.plain (OpenSpec.upto derOnlySpec)) derOnlyUptoCard

/-- THE SECOND FORM's CARD OF 'greatseallaw07.DerShort'. -/
def derShortUptoCard : Claim7 := { stood := { row := derShortUptoRow, standIns := [], harness := (true, "49a436707069bd576c8003e8917f67bedfd21e7996df197604c30895077fbcb7"), looks := false }, kinds := [], alts := [], laidByText := true, laidKinds := [.funcsDeep], laidTests := true, laidLooks := .later }
def DerShortUptoCardSaid : Prop := Claim7.holds Tryd.pinned (.plain (OpenSpec.upto derShortSpec)) derShortUptoCard

/-- THE SECOND FORM's CARD OF 'greatseallaw07.DerInts'. -/
def derIntsUptoCard : Claim7 := { stood := { row := derIntsUptoRow, standIns := [], harness := (true, "49a436707069bd576c8003e8917f67bedfd21e7996df197604c30895077fbcb7"), looks := false }, kinds := [], alts := [], laidByText := true, laidKinds := [.funcsDeep], laidTests := true, laidLooks := .later }
def DerIntsUptoCardSaid : Prop := Claim7.holds Tryd.pinned (.plain (OpenSpec.upto derIntsSpec)) derIntsUptoCard

/-- THE SECOND FORM's CARD OF 'greatseallaw07.DerSeqs'. -/
def derSeqsUptoCard : Claim7 := { stood := { row := derSeqsUptoRow, standIns := [], harness := (true, "49a436707069bd576c8003e8917f67bedfd21e7996df197604c30895077fbcb7"), looks := false }, kinds := [], alts := [], laidByText := true, laidKinds := [.funcsDeep], laidTests := true, laidLooks := .later }
def DerSeqsUptoCardSaid : Prop := Claim7.holds Tryd.pinned (.plain (OpenSpec.upto derSeqsSpec)) derSeqsUptoCard

/-- THE SECOND FORM's CARD OF 'greatseallaw07.DerTells'. -/
def derTellsUptoCard : Claim7 := { stood := { row := derTellsUptoRow, standIns := [], harness := (true, "49a436707069bd576c8003e8917f67bedfd21e7996df197604c30895077fbcb7"), looks := false }, kinds := [], alts := [], laidByText := true, laidKinds := [.funcsDeep], laidTests := true, laidLooks := .later }
def DerTellsUptoCardSaid : Prop := Claim7.holds Tryd.pinned (.plain (OpenSpec.upto derTellsSpec)) derTellsUptoCard

/-- THE SECOND FORM's CARD OF 'greatseallaw07.DerMakes'. -/
def derMakesUptoCard : Claim7 := { stood := { row := derMakesUptoRow, standIns := [], harness := (true, "49a436707069bd576c8003e8917f67bedfd21e7996df197604c30895077fbcb7"), looks := false }, kinds := [], alts := [], laidByText := true, laidKinds := [.funcsDeep], laidTests := true, laidLooks := .later }
def DerMakesUptoCardSaid : Prop := Claim7.holds Tryd.pinned (.plain (OpenSpec.upto derMakesSpec)) derMakesUptoCard
end Rows
end Go.Proofs.YtpmiihmhfagfoaaDoor
