/-
  DERIVED. GIVEN WITH THE SEED: THE PROGRAM's TIES (one call each: nine closed facts by the kernel) AND EACH ROW's TIE, after the 31st guide's Derived/Test/Toyas{Tie, Card}.lean. No idea stands in it: it is a product of the set-up. Laid BY PROGRAM, IN A SANDBOX (cutbox-door.mjs). By AI agents, Wed Nov 11 2026. No macro, syntax, notation, axiom, sorry.
-/
import Derived.Test.YtfdchdnkblmijaaDoorRows
import Derived.LaidByTextLater
import Derived.SevenTiedAt
import Derived.LaidSub
import Derived.LaidOnce
namespace Go.Proofs.YtfdchdnkblmijaaDoor
open Go
set_option maxRecDepth 100000
theorem seatTie1 : Tryd.prog.laidByTextLater [("greatseal/der.kinds", Rows.laid_greatseal_der_kinds)] [.funcsDeep] true :=
  Program.laidByTextLater_by_one 19 8 2 (by kernel_rfl) (by kernel_rfl) (by kernel_rfl) (by kernel_rfl) (by kernel_rfl) (by kernel_rfl) (fun _ _ => by kernel_rfl)
theorem noOwnUnsafe : Tryd.pinned.checked.prog.headLifts.contains "ownunsafe" = false := by kernel_rfl
theorem tie : Tryd.prog.laidByTextLater [("greatseal/der.kinds", Rows.laid_greatseal_der_kinds)] [.funcsDeep] true :=
  Program.laidByTextLater.sub seatTie1 ["greatseal/der.kinds"] (by kernel_rfl) (by kernel_rfl)
theorem cascadeRight_row_tie : Rows.cascadeRightRow.laidByTextAt .later Tryd.pinned [.funcsDeep] true :=
  OpenClaim.laidByTextAt_later rfl rfl tie noOwnUnsafe
theorem cascadeFails_row_tie : Rows.cascadeFailsRow.laidByTextAt .later Tryd.pinned [.funcsDeep] true :=
  OpenClaim.laidByTextAt_later rfl rfl tie noOwnUnsafe
theorem cascadeLevels_row_tie : Rows.cascadeLevelsRow.laidByTextAt .later Tryd.pinned [.funcsDeep] true :=
  OpenClaim.laidByTextAt_later rfl rfl tie noOwnUnsafe
theorem cascadeBack_row_tie : Rows.cascadeBackRow.laidByTextAt .later Tryd.pinned [.funcsDeep] true :=
  OpenClaim.laidByTextAt_later rfl rfl tie noOwnUnsafe
theorem cascadeLeads_row_tie : Rows.cascadeLeadsRow.laidByTextAt .later Tryd.pinned [.funcsDeep] true :=
  OpenClaim.laidByTextAt_later rfl rfl tie noOwnUnsafe
theorem cascadeRightUpto_row_tie : Rows.cascadeRightUptoRow.laidByTextAt .later Tryd.pinned [.funcsDeep] true :=
  OpenClaim.laidByTextAt_later rfl rfl tie noOwnUnsafe
theorem cascadeFailsUpto_row_tie : Rows.cascadeFailsUptoRow.laidByTextAt .later Tryd.pinned [.funcsDeep] true :=
  OpenClaim.laidByTextAt_later rfl rfl tie noOwnUnsafe
theorem cascadeLevelsUpto_row_tie : Rows.cascadeLevelsUptoRow.laidByTextAt .later Tryd.pinned [.funcsDeep] true :=
  OpenClaim.laidByTextAt_later rfl rfl tie noOwnUnsafe
theorem cascadeBackUpto_row_tie : Rows.cascadeBackUptoRow.laidByTextAt .later Tryd.pinned [.funcsDeep] true :=
  OpenClaim.laidByTextAt_later rfl rfl tie noOwnUnsafe
theorem cascadeLeadsUpto_row_tie : Rows.cascadeLeadsUptoRow.laidByTextAt .later Tryd.pinned [.funcsDeep] true :=
  OpenClaim.laidByTextAt_later rfl rfl tie noOwnUnsafe
end Go.Proofs.YtfdchdnkblmijaaDoor
