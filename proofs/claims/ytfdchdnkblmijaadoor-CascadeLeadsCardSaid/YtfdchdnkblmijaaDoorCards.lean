/-
  DERIVED. GIVEN WITH THE SEED: THE CARDS: each row of YtfdchdnkblmijaaDoorRows.lean that lists a variable, with what it lists TIED to the program's text (the seventh form; the later family's looks); each row that meets fmt, with fmt's text TOLD by the authors' own Lean function (tested against real Go, not proved from fmt's source: count such statements apart). THE CARD IS WHAT COUNTS. Prove the row's statement (the work); the ties are given (YtfdchdnkblmijaaDoorTie.lean); close each card by the builder's one call (the guide's Derived/Test/ToyasCard.lean, 'card_holds'). Laid BY PROGRAM, IN A SANDBOX (cutbox-door.mjs). By AI agents, Wed Nov 11 2026. No macro, syntax, notation, axiom, sorry.
-/
import Derived.Test.YtfdchdnkblmijaaDoorRows
import GoSem.ClaimSeven
namespace Go.Proofs.YtfdchdnkblmijaaDoor
namespace Rows

/-- THE TIED CARD OF 'greatseallaw10.CascadeRight'. -/
def cascadeRightCard : Claim7 := { stood := { row := cascadeRightRow, standIns := [], harness := (true, "ed55e6b7d27b97c3189c22004309993d6965e5812ae50514b1ffa0ac7a2e0d6e"), looks := false }, kinds := [], alts := [], laidByText := true, laidKinds := [.funcsDeep], laidTests := true, laidLooks := .later }
def CascadeRightCardSaid : Prop := Claim7.holds Tryd.pinned (.plain (OpenSpec.ofChange cascadeRightSpec)) cascadeRightCard

/-- THE TIED CARD OF 'greatseallaw10.CascadeFails'. -/
def cascadeFailsCard : Claim7 := { stood := { row := cascadeFailsRow, standIns := [], harness := (true, "ed55e6b7d27b97c3189c22004309993d6965e5812ae50514b1ffa0ac7a2e0d6e"), looks := false }, kinds := [], alts := [], laidByText := true, laidKinds := [.funcsDeep], laidTests := true, laidLooks := .later }
def CascadeFailsCardSaid : Prop := Claim7.holds Tryd.pinned (.plain (OpenSpec.ofChange cascadeFailsSpec)) cascadeFailsCard

/-- THE TIED CARD OF 'greatseallaw10.CascadeLevels'. -/
def cascadeLevelsCard : Claim7 := { stood := { row := cascadeLevelsRow, standIns := [], harness := (true, "ed55e6b7d27b97c3189c22004309993d6965e5812ae50514b1ffa0ac7a2e0d6e"), looks := false }, kinds := [], alts := [], laidByText := true, laidKinds := [.funcsDeep], laidTests := true, laidLooks := .later }
def CascadeLevelsCardSaid : Prop := Claim7.holds Tryd.pinned (.plain (OpenSpec.ofChange cascadeLevelsSpec)) cascadeLevelsCard

/-- THE TIED CARD OF 'greatseallaw10.CascadeBack'. -/
def cascadeBackCard : Claim7 := { stood := { row := cascadeBackRow, standIns := [], harness := (true, "ed55e6b7d27b97c3189c22004309993d6965e5812ae50514b1ffa0ac7a2e0d6e"), looks := false }, kinds := [], alts := [], laidByText := true, laidKinds := [.funcsDeep], laidTests := true, laidLooks := .later }
def CascadeBackCardSaid : Prop := Claim7.holds Tryd.pinned (.plain (OpenSpec.ofChange cascadeBackSpec)) cascadeBackCard

/-- THE TIED CARD OF 'greatseallaw10.CascadeLeads'. -/
def cascadeLeadsCard : Claim7 := { stood := { row := cascadeLeadsRow, standIns := [], harness := (true, "ed55e6b7d27b97c3189c22004309993d6965e5812ae50514b1ffa0ac7a2e0d6e"), looks := false }, kinds := [], alts := [], laidByText := true, laidKinds := [.funcsDeep], laidTests := true, laidLooks := .later }
def CascadeLeadsCardSaid : Prop := Claim7.holds Tryd.pinned (.plain (OpenSpec.ofChange cascadeLeadsSpec)) cascadeLeadsCard

/-- THE SECOND FORM's CARD OF 'greatseallaw10.CascadeRight'. -/
def cascadeRightUptoCard : Claim7 := { stood := { row := cascadeRightUptoRow, standIns := [], harness := (true, "ed55e6b7d27b97c3189c22004309993d6965e5812ae50514b1ffa0ac7a2e0d6e"), looks := false }, kinds := [], alts := [], laidByText := true, laidKinds := [.funcsDeep], laidTests := true, laidLooks := .later }
def CascadeRightUptoCardSaid : Prop := Claim7.holds Tryd.pinned (.plain (OpenSpec.upto cascadeRightSpec)) cascadeRightUptoCard

/-- THE SECOND FORM's CARD OF 'greatseallaw10.CascadeFails'. -/
def cascadeFailsUptoCard : Claim7 := { stood := { row := cascadeFailsUptoRow, standIns := [], harness := (true, "ed55e6b7d27b97c3189c22004309993d6965e5812ae50514b1ffa0ac7a2e0d6e"), looks := false }, kinds := [], alts := [], laidByText := true, laidKinds := [.funcsDeep], laidTests := true, laidLooks := .later }
def CascadeFailsUptoCardSaid : Prop := Claim7.holds Tryd.pinned (.plain (OpenSpec.upto cascadeFailsSpec)) cascadeFailsUptoCard

/-- THE SECOND FORM's CARD OF 'greatseallaw10.CascadeLevels'. -/
def cascadeLevelsUptoCard : Claim7 := { stood := { row := cascadeLevelsUptoRow, standIns := [], harness := (true, "ed55e6b7d27b97c3189c22004309993d6965e5812ae50514b1ffa0ac7a2e0d6e"), looks := false }, kinds := [], alts := [], laidByText := true, laidKinds := [.funcsDeep], laidTests := true, laidLooks := .later }
def CascadeLevelsUptoCardSaid : Prop := Claim7.holds Tryd.pinned (.plain (OpenSpec.upto cascadeLevelsSpec)) cascadeLevelsUptoCard

/-- THE SECOND FORM's CARD OF 'greatseallaw10.CascadeBack'. -/
def cascadeBackUptoCard : Claim7 := { stood := { row := cascadeBackUptoRow, standIns := [], harness := (true, "ed55e6b7d27b97c3189c22004309993d6965e5812ae50514b1ffa0ac7a2e0d6e"), looks := false }, kinds := [], alts := [], laidByText := true, laidKinds := [.funcsDeep], laidTests := true, laidLooks := .later }
def CascadeBackUptoCardSaid : Prop := Claim7.holds Tryd.pinned (.plain (OpenSpec.upto cascadeBackSpec)) cascadeBackUptoCard

/-- THE SECOND FORM's CARD OF 'greatseallaw10.CascadeLeads'. -/
def cascadeLeadsUptoCard : Claim7 := { stood := { row := cascadeLeadsUptoRow, standIns := [], harness := (true, "ed55e6b7d27b97c3189c22004309993d6965e5812ae50514b1ffa0ac7a2e0d6e"), looks := false }, kinds := [], alts := [], laidByText := true, laidKinds := [.funcsDeep], laidTests := true, laidLooks := .later }
def CascadeLeadsUptoCardSaid : Prop := Claim7.holds Tryd.pinned (.plain (OpenSpec.upto cascadeLeadsSpec)) cascadeLeadsUptoCard
end Rows
end Go.Proofs.YtfdchdnkblmijaaDoor
