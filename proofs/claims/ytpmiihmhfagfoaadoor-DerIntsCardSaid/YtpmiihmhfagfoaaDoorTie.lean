/-
  DERIVED. GIVEN WITH THE SEED: THE PROGRAM's TIES (one call each: nine closed facts by the kernel) AND EACH ROW's TIE, after the 31st guide's Derived/Test/Toyas{Tie, Card}.lean. No idea stands in it: it is a product of the set-up. Laid BY PROGRAM, IN A SANDBOX (cutbox-door.mjs). By AI agents, Wed Nov 11 2026. No macro, syntax, notation, axiom, sorry.
-/
import Derived.Test.YtpmiihmhfagfoaaDoorRows
import Derived.LaidByTextLater
import Derived.SevenTiedAt
import Derived.LaidSub
import Derived.LaidOnce
namespace Go.Proofs.YtpmiihmhfagfoaaDoor
open Go
set_option maxRecDepth 100000
theorem seatTie1 : Tryd.prog.laidByTextLater [("greatseal/der.kinds", Rows.laid_greatseal_der_kinds)] [.funcsDeep] true :=
  Program.laidByTextLater_by_one 19 8 2 (by kernel_rfl) (by kernel_rfl) (by kernel_rfl) (by kernel_rfl) (by kernel_rfl) (by kernel_rfl) (fun _ _ => by kernel_rfl)
theorem noOwnUnsafe : Tryd.pinned.checked.prog.headLifts.contains "ownunsafe" = false := by kernel_rfl
theorem tie : Tryd.prog.laidByTextLater [("greatseal/der.kinds", Rows.laid_greatseal_der_kinds)] [.funcsDeep] true :=
  Program.laidByTextLater.sub seatTie1 ["greatseal/der.kinds"] (by kernel_rfl) (by kernel_rfl)
theorem derPuts_row_tie : Rows.derPutsRow.laidByTextAt .later Tryd.pinned [.funcsDeep] true :=
  OpenClaim.laidByTextAt_later rfl rfl tie noOwnUnsafe
theorem derGets_row_tie : Rows.derGetsRow.laidByTextAt .later Tryd.pinned [.funcsDeep] true :=
  OpenClaim.laidByTextAt_later rfl rfl tie noOwnUnsafe
theorem derBack_row_tie : Rows.derBackRow.laidByTextAt .later Tryd.pinned [.funcsDeep] true :=
  OpenClaim.laidByTextAt_later rfl rfl tie noOwnUnsafe
theorem derOnly_row_tie : Rows.derOnlyRow.laidByTextAt .later Tryd.pinned [.funcsDeep] true :=
  OpenClaim.laidByTextAt_later rfl rfl tie noOwnUnsafe
theorem derShort_row_tie : Rows.derShortRow.laidByTextAt .later Tryd.pinned [.funcsDeep] true :=
  OpenClaim.laidByTextAt_later rfl rfl tie noOwnUnsafe
theorem derInts_row_tie : Rows.derIntsRow.laidByTextAt .later Tryd.pinned [.funcsDeep] true :=
  OpenClaim.laidByTextAt_later rfl rfl tie noOwnUnsafe
theorem derSeqs_row_tie : Rows.derSeqsRow.laidByTextAt .later Tryd.pinned [.funcsDeep] true :=
  OpenClaim.laidByTextAt_later rfl rfl tie noOwnUnsafe
theorem derTells_row_tie : Rows.derTellsRow.laidByTextAt .later Tryd.pinned [.funcsDeep] true :=
  OpenClaim.laidByTextAt_later rfl rfl tie noOwnUnsafe
theorem derMakes_row_tie : Rows.derMakesRow.laidByTextAt .later Tryd.pinned [.funcsDeep] true :=
  OpenClaim.laidByTextAt_later rfl rfl tie noOwnUnsafe
theorem derPutsUpto_row_tie : Rows.derPutsUptoRow.laidByTextAt .later Tryd.pinned [.funcsDeep] true :=
  OpenClaim.laidByTextAt_later rfl rfl tie noOwnUnsafe
theorem derGetsUpto_row_tie : Rows.derGetsUptoRow.laidByTextAt .later Tryd.pinned [.funcsDeep] true :=
  OpenClaim.laidByTextAt_later rfl rfl tie noOwnUnsafe
theorem derBackUpto_row_tie : Rows.derBackUptoRow.laidByTextAt .later Tryd.pinned [.funcsDeep] true :=
  OpenClaim.laidByTextAt_later rfl rfl tie noOwnUnsafe
theorem derOnlyUpto_row_tie : Rows.derOnlyUptoRow.laidByTextAt .later Tryd.pinned [.funcsDeep] true :=
  OpenClaim.laidByTextAt_later rfl rfl tie noOwnUnsafe
theorem derShortUpto_row_tie : Rows.derShortUptoRow.laidByTextAt .later Tryd.pinned [.funcsDeep] true :=
  OpenClaim.laidByTextAt_later rfl rfl tie noOwnUnsafe
theorem derIntsUpto_row_tie : Rows.derIntsUptoRow.laidByTextAt .later Tryd.pinned [.funcsDeep] true :=
  OpenClaim.laidByTextAt_later rfl rfl tie noOwnUnsafe
theorem derSeqsUpto_row_tie : Rows.derSeqsUptoRow.laidByTextAt .later Tryd.pinned [.funcsDeep] true :=
  OpenClaim.laidByTextAt_later rfl rfl tie noOwnUnsafe
theorem derTellsUpto_row_tie : Rows.derTellsUptoRow.laidByTextAt .later Tryd.pinned [.funcsDeep] true :=
  OpenClaim.laidByTextAt_later rfl rfl tie noOwnUnsafe
theorem derMakesUpto_row_tie : Rows.derMakesUptoRow.laidByTextAt .later Tryd.pinned [.funcsDeep] true :=
  OpenClaim.laidByTextAt_later rfl rfl tie noOwnUnsafe
end Go.Proofs.YtpmiihmhfagfoaaDoor
