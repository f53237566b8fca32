/-
  Bits of numbers of 64 bits, as the walks over package field spell them.
-/
import Derived.Test.YtfdchdnkblmijaaGreatDoorFm
import Derived.Laws.BitsAllLaws
import Derived.IntWalk
namespace Go.Proofs.YtfdchdnkblmijaaGreatDoor.Fb
open Go

theorem and61 (x : Int) (h0 : 0 ≤ x) (h1 : x < 18446744073709551616) : bits .and .u64 x 2305843009213693951 = x % 2305843009213693952 := by
  obtain ⟨n, rfl⟩ := Int.eq_ofNat_of_zero_le h0
  have h := u64_and_nat n 2305843009213693951 (by omega) (by omega)
  have e : n &&& 2305843009213693951 = n % 2305843009213693952 := Nat.and_two_pow_sub_one_eq_mod n 61
  rw [e] at h
  exact h

theorem or3 (x y : Int) (h0 : 0 ≤ x) (h1 : x < 2305843009213693952) (h2 : 0 ≤ y) (h3 : y < 8) : bits .or .u64 (x * 8) y = x * 8 + y := by
  obtain ⟨n, rfl⟩ := Int.eq_ofNat_of_zero_le h0
  obtain ⟨m, rfl⟩ := Int.eq_ofNat_of_zero_le h2
  have h := u64_or_nat (n * 8) m (by omega) (by omega)
  rw [nat_join 3 (n * 8) m (by omega) (by omega)] at h
  simpa using h

theorem fold1 (hi lo : Int) (h0 : 0 ≤ hi) (h1 : hi < 288230376151711744) (l0 : 0 ≤ lo) (l1 : lo < 18446744073709551616) :
    IntKind.u64.wrap (bits .and .u64 lo 2305843009213693951 + bits .or .u64 (IntKind.u64.wrap (hi * 8)) (lo / 2305843009213693952)) =
      lo % 2305843009213693952 + (hi * 8 + lo / 2305843009213693952) := by
  rw [and61 lo l0 l1, IntWalk.u64_in (hi * 8) (by omega), or3 hi _ h0 (by omega) (by omega) (by omega), IntWalk.u64_in _ (by omega)]

theorem fold2 (n : Int) (h0 : 0 ≤ n) (h1 : n < 18446744073709551616) :
    IntKind.u64.wrap (bits .and .u64 n 2305843009213693951 + n / 2305843009213693952) = n % 2305843009213693952 + n / 2305843009213693952 := by
  rw [and61 n h0 h1, IntWalk.u64_in _ (by omega)]

/-- The whole of 'fold', as the walk spells it. -/
theorem fold_is (hi lo : Int) (h0 : 0 ≤ hi) (h1 : hi < 288230376151711744) (l0 : 0 ≤ lo) (l1 : lo < 18446744073709551616) :
    ∃ n m : Int, IntKind.u64.wrap (bits .and .u64 lo 2305843009213693951 + bits .or .u64 (IntKind.u64.wrap (hi * 8)) (lo / 2305843009213693952)) = n ∧
      IntKind.u64.wrap (bits .and .u64 n 2305843009213693951 + n / 2305843009213693952) = m ∧
      ((decide (2305843009213693951 ≤ m) = true ∧ IntKind.u64.wrap (m - 2305843009213693951) = (hi * 18446744073709551616 + lo) % Fm.P) ∨
       (decide (2305843009213693951 ≤ m) = false ∧ m = (hi * 18446744073709551616 + lo) % Fm.P)) := by
  refine ⟨_, _, fold1 hi lo h0 h1 l0 l1, fold2 _ (by omega) (by omega), ?_⟩
  have hf := Fm.fold_law hi lo h0 h1 l0 l1
  simp only at hf
  split at hf
  · rename_i h; left; refine ⟨decide_eq_true h, ?_⟩; rw [IntWalk.u64_in _ (by omega)]; exact hf
  · rename_i h; right; exact ⟨decide_eq_false h, hf⟩
theorem and1 (x : Int) (h0 : 0 ≤ x) (h1 : x < 18446744073709551616) : bits .and .u64 x 1 = x % 2 := by
  obtain ⟨n, rfl⟩ := Int.eq_ofNat_of_zero_le h0
  have h := u64_and_nat n 1 (by omega) (by omega)
  rw [nat_mask1] at h
  exact h

theorem bit_test (n : Int) (j : Nat) (h0 : 0 ≤ n) (h1 : n < 18446744073709551616) :
    (bits .and .u64 (n / 2 ^ j) 1 == 1) = decide (n.toNat / 2 ^ j % 2 = 1) := by
  obtain ⟨m, rfl⟩ := Int.eq_ofNat_of_zero_le h0
  have e : (m : Int) / 2 ^ j = ((m / 2 ^ j : Nat) : Int) := by simp
  have hle : m / 2 ^ j ≤ m := Nat.div_le_self _ _
  rw [e, Int.toNat_natCast]
  generalize m / 2 ^ j = q at hle
  rw [and1 _ (by omega) (by omega)]
  rw [Bool.eq_iff_iff]; simp; omega
end Go.Proofs.YtfdchdnkblmijaaGreatDoor.Fb
