/-
  The walk over greatseallaw01.live: the chapter's example.
-/
import Derived.Test.YtnichjocllfocaaFi
import Derived.Test.YtnichjocllfocaaFs
import Derived.Test.YtnichjocllfocaaFc
namespace Go.Proofs.Ytnichjocllfocaa
open Go.RowKit

theorem inv2 : Fm.inv 2 = 1152921504606846976 := (Fm.inv_unique 2 1152921504606846976 (by omega) (by unfold Fm.P; omega) (by decide)).symm
theorem U64.lit {n : Nat} (h : n < 18446744073709551616) : U64 (n : Int) := ⟨by omega, by omega⟩

set_option maxRecDepth 100000 in
set_option maxHeartbeats 1000000 in
theorem live_any (w : World) : Calls Try.prog 12 #[] w fun e w' => e = .returned (.bool true) ∧ Below w.heap.size w w' := by
  have i2 := inv2
  have a1 : Fm.add 2305843009213693950 2 = 1 := by decide
  have a2 : Fm.sub 0 1 = 2305843009213693950 := by decide
  have a3 : Fm.mul 1152921504606846976 2 = 1 := by decide
  have a4 : Fm.pow 2 (61 : Int).toNat = 1 := by decide
  have I2 := Lib.hid i2; have A1 := Lib.hid a1; have A2 := Lib.hid a2; have A3 := Lib.hid a3; have A4 := Lib.hid a4
  clear i2 a1 a2 a3 a4
  go_enter Try.func12, Try.ntmps12
  go_wp2_with fail
  refine (Inv_some 2 _ ⟨by omega, by omega⟩ (by decide)).mono ?_; rintro e w' ⟨rfl, rfl⟩
  rw [I2.out]
  go_wp2_with fail
  refine (Inv_zero 2305843009213693951 _ ⟨by omega, by omega⟩ (by decide)).mono ?_; rintro e w' ⟨rfl, rfl⟩
  go_wp2_with fail
  refine (Add_any _ _ _ ⟨by omega, by omega⟩ ⟨by omega, by omega⟩).mono ?_; rintro e w' ⟨rfl, rfl⟩
  rw [A1.out]
  go_wp2_with fail
  refine (Sub_any _ _ _ ⟨by omega, by omega⟩ ⟨by omega, by omega⟩).mono ?_; rintro e w' ⟨rfl, rfl⟩
  rw [A2.out]
  go_wp2_with fail
  refine (Mul_any _ _ _ ⟨by omega, by omega⟩ ⟨by omega, by omega⟩).mono ?_; rintro e w' ⟨rfl, rfl⟩
  rw [A3.out]
  go_wp2_with fail
  refine (Pow_any _ _ _ ⟨by omega, by omega⟩ ⟨by omega, by omega⟩).mono ?_; rintro e w' ⟨rfl, rfl⟩
  rw [A4.out]
  go_wp2_with fail
  have r8 : Row .u8 (w.alloc (.cells #[.int .u8 1, .int .u8 0, .int .u8 0, .int .u8 0, .int .u8 0, .int .u8 0, .int .u8 0, .int .u8 2] 5)) (.slice (some ⟨w.heap.size, 0, none⟩) 8 8) [1, 0, 0, 0, 0, 0, 0, 2] :=
    Row.lit .u8 w 5 [1, 0, 0, 0, 0, 0, 0, 2] (by decide) (by decide)
  have b1 : Below w.heap.size w (w.alloc (.cells #[.int .u8 1, .int .u8 0, .int .u8 0, .int .u8 0, .int .u8 0, .int .u8 0, .int .u8 0, .int .u8 2] 5)) := (Below.refl _ _).alloc (Nat.le_refl _) _
  refine (Of_any _ _ _ r8 (by decide)).mono ?_; rintro e w1 ⟨r, rfl, hr, hb2⟩
  have b2 := b1.trans (hb2.mono (by simp))
  rw [show elems [1, 0, 0, 0, 0, 0, 0, 2] = [1, 2] by decide] at hr
  clear r8 b1 hb2
  go_wp2_with fail
  have r2 : Row .u64 (w1.alloc (.cells #[.int .u64 1, .int .u64 2] 22)) (.slice (some ⟨w1.heap.size, 0, none⟩) 2 2) [1, 2] := Row.lit .u64 w1 22 [1, 2] (by decide) (by decide)
  have b3 := b2.alloc b2.size (.cells #[.int .u64 1, .int .u64 2] 22)
  refine (RSame_any _ _ _ _ _ (hr.alloc _) r2).mono ?_; rintro e w2 ⟨rfl, hb4⟩
  have b4 := b3.trans (hb4.mono b3.size)
  rw [show decide ([1, 2] = ([1, 2] : List Int)) = true by decide]
  clear r2 b2 b3 hb4 hr
  go_wp2_with fail
  have r3 : Row .u64 (w2.alloc (.cells #[.int .u64 1, .int .u64 2, .int .u64 3] 22)) (.slice (some ⟨w2.heap.size, 0, none⟩) 3 3) [1, 2, 3] := Row.lit .u64 w2 22 [1, 2, 3] (by decide) (by decide)
  have b5 := b4.alloc b4.size (.cells #[.int .u64 1, .int .u64 2, .int .u64 3] 22)
  refine (Eval_any _ _ _ _ r3 ⟨by omega, by omega⟩).mono ?_; rintro e w3 ⟨rfl, hb6⟩
  have b6 := b5.trans (hb6.mono b5.size)
  rw [show Fm.eval [1, 2, 3] 10 = 321 by decide]
  clear r3 b4 b5 hb6
  go_wp2_with fail
  go_ret
  exact ⟨rfl, b6⟩
end Go.Proofs.Ytnichjocllfocaa
