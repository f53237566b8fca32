/-
  Walks over the laws of the field: Sums, Products, Reads, Ring, Divides, Powers.
-/
import Derived.Test.YtnichjocllfocaaFl
namespace Go.Proofs.Ytnichjocllfocaa
open Go.RowKit

set_option maxRecDepth 100000 in
set_option maxHeartbeats 1000000 in
theorem FieldSums_any (a b : Int) (w : World) (ha : (Lit.int .u64 a).wf = true) (hb : (Lit.int .u64 b).wf = true) :
    Calls Try.prog 3 #[.int .u64 a, .int .u64 b] w fun e w' => e = .returned (.bool true) ∧ Below w.heap.size w w' := by
  have ua := Lib.hid (U64.of_wf ha)
  have ub := Lib.hid (U64.of_wf hb)
  clear ha hb
  go_enter Try.func3, Try.ntmps3
  go_wp2_with fail
  refine (live_any _).mono ?_; rintro e w1 ⟨rfl, hb1⟩
  go_wp2_with fail
  refine (Add_any _ _ _ ua.out ub.out).mono ?_; rintro e w' ⟨rfl, rfl⟩
  go_wp2_with fail
  refine (RAdd_any _ _ _ ua.out ub.out).mono ?_; rintro e w' ⟨rfl, rfl⟩
  go_wp2_with fail
  refine (Sub_any _ _ _ ua.out ub.out).mono ?_; rintro e w' ⟨rfl, rfl⟩
  go_wp2_with fail
  refine (RSub_any _ _ _ ua.out ub.out).mono ?_; rintro e w' ⟨rfl, rfl⟩
  go_wp2_with fail
  go_ret
  exact ⟨rfl, hb1⟩
end Go.Proofs.Ytnichjocllfocaa
