/-
  Walks over math/bits.Rem64 at Q and R, and over package cyclic: add, mul, inverse of a ring, AddR, SubR, MulR, Mul.
-/
import Derived.Test.YtlaidjgdipacgaaGreatDoorUd
import Derived.Test.YtlaidjgdipacgaaGreatDoorNu
import Derived.Test.YtlaidjgdipacgaaGreatDoorWa
import Derived.BigQuiet
namespace Go.Proofs.YtlaidjgdipacgaaGreatDoor
open Go.RowKit

/-- What a modulus must have: bits.Div64 by it is walked. -/
structure Modl (m : Int) : Prop where
  lo : 8 ≤ m
  hi : m ≤ 2305843009213693952
  div : ∀ (hi lo : Int) (W : World), 0 ≤ hi → hi < m → 0 ≤ lo → lo < 18446744073709551616 → Calls Tryz.prog 92 #[.int .u64 hi, .int .u64 lo, .int .u64 m] W fun e w' => (∃ q, e = .returned (.tuple #[.int .u64 q, .int .u64 ((hi * 18446744073709551616 + lo) % m)])) ∧ Below W.heap.size W w'
theorem modl_Q : Modl 2305843009213691579 := ⟨by decide, by decide, fun hi lo W h0 h1 l0 l1 => Div64_Q hi lo W h0 h1 l0 l1⟩
theorem modl_R : Modl 1152921504606845789 := ⟨by decide, by decide, fun hi lo W h0 h1 l0 l1 => Div64_R hi lo W h0 h1 l0 l1⟩

set_option maxRecDepth 100000 in
set_option maxHeartbeats 1000000 in
theorem Rem64_at {m : Int} (hm : Modl m) (hi lo : Int) (w : World) (h0 : 0 ≤ hi) (_h1 : hi < 18446744073709551616) (l0 : 0 ≤ lo) (l1 : lo < 18446744073709551616) :
    Calls Tryz.prog 90 #[.int .u64 hi, .int .u64 lo, .int .u64 m] w fun e w' => e = .returned (.int .u64 ((hi * 18446744073709551616 + lo) % m)) ∧ Below w.heap.size w w' := by
  obtain ⟨m8, mb, hD⟩ := hm
  obtain ⟨r, hr⟩ : ∃ r, hi % m = r := ⟨_, rfl⟩
  have r0 : 0 ≤ r := by rw [← hr]; exact Int.emod_nonneg _ (by omega)
  have r1 : r < m := by rw [← hr]; exact Int.emod_lt_of_pos _ (by omega)
  have e1 : hi.tmod m = r := by rw [Int.tmod_eq_emod_of_nonneg h0, hr]
  have e2 : (r * 18446744073709551616 + lo) % m = (hi * 18446744073709551616 + lo) % m := by
    rw [← hr, Int.add_emod, Int.mul_emod, Int.emod_emod, ← Int.mul_emod, ← Int.add_emod]
  have e3 : IntKind.u64.wrap r = r := by rw [IntKind.wrap_u64]; omega
  have mz : ¬ m = 0 := by omega
  have D := fun W => hD r lo W r0 r1 l0 l1
  rw [e2] at D
  obtain ⟨z, hz⟩ : ∃ z, (hi * 18446744073709551616 + lo) % m = z := ⟨_, rfl⟩
  rw [hz] at D ⊢
  clear hz e2 hr hD
  go_enter Tryz.func90, Tryz.ntmps90
  go_wp2_with fail
  refine (D _).mono ?_; rintro e w' ⟨⟨q, rfl⟩, hb⟩
  go_wp2_with fail
  go_ret
  exact ⟨rfl, hb⟩

set_option maxRecDepth 100000 in
set_option maxHeartbeats 1000000 in
theorem radd_any {m : Int} (hm : Modl m) (a b : Int) (w : World) (a0 : 0 ≤ a) (b0 : 0 ≤ b) (_a1 : a < 18446744073709551616) (_b1 : b < 18446744073709551616) :
    Calls Tryz.prog 55 #[.int .u64 m, .int .u64 a, .int .u64 b] w fun e w' => e = .returned (.int .u64 (Gm.add m a b)) ∧ Below w.heap.size w w' := by
  have m8 := hm.lo; have mb := hm.hi
  have mz : ¬ m = 0 := by omega
  obtain ⟨x, hx⟩ : ∃ r, a % m = r := ⟨_, rfl⟩
  obtain ⟨y, hy⟩ : ∃ r, b % m = r := ⟨_, rfl⟩
  have x0 : 0 ≤ x := by rw [← hx]; exact Int.emod_nonneg _ (by omega)
  have x1 : x < m := by rw [← hx]; exact Int.emod_lt_of_pos _ (by omega)
  have y0 : 0 ≤ y := by rw [← hy]; exact Int.emod_nonneg _ (by omega)
  have y1 : y < m := by rw [← hy]; exact Int.emod_lt_of_pos _ (by omega)
  have e1 : a.tmod m = x := by rw [Int.tmod_eq_emod_of_nonneg a0, hx]
  have e2 : b.tmod m = y := by rw [Int.tmod_eq_emod_of_nonneg b0, hy]
  have e3 : IntKind.u64.wrap x = x := by rw [IntKind.wrap_u64]; omega
  have e4 : IntKind.u64.wrap y = y := by rw [IntKind.wrap_u64]; omega
  have A := add64_0 x y x0 y0 (by omega)
  have hz : (0 * 18446744073709551616 + (x + y)) % m = Gm.add m a b := by
    unfold Gm.add
    rw [← hx, ← hy, Int.zero_mul, Int.zero_add, ← Int.add_emod]
  have S := fun W => Rem64_at hm 0 (x + y) W (Int.le_refl _) (by decide) (by omega) (by omega)
  rw [hz] at S
  obtain ⟨z, hz⟩ : ∃ z, Gm.add m a b = z := ⟨_, rfl⟩
  rw [hz] at S ⊢
  clear hz hx hy
  go_enter Tryz.func55, Tryz.ntmps55
  go_wp2_with fail
  go_region_with (fail)
  all_goals
    go_wp2_with fail
    refine (S _).mono ?_; rintro e w' ⟨rfl, hb⟩
    go_wp2_with fail
    go_ret
    exact ⟨rfl, (Below.refl _ w).drew.trans hb⟩

set_option maxRecDepth 100000 in
set_option maxHeartbeats 1000000 in
theorem rmul_any {m : Int} (hm : Modl m) (a b : Int) (w : World) (a0 : 0 ≤ a) (b0 : 0 ≤ b) (a1 : a < 18446744073709551616) (b1 : b < 18446744073709551616) :
    Calls Tryz.prog 56 #[.int .u64 m, .int .u64 a, .int .u64 b] w fun e w' => e = .returned (.int .u64 (Gm.mul m a b)) ∧ Below w.heap.size w w' := by
  obtain ⟨n, rfl⟩ := Int.eq_ofNat_of_zero_le a0
  obtain ⟨q, rfl⟩ := Int.eq_ofNat_of_zero_le b0
  have M := Sh.bits_Mul64 n q (by omega) (by omega)
  obtain ⟨p, hp⟩ : ∃ p, n * q = p := ⟨_, rfl⟩
  have hp2 : (n : Int) * (q : Int) = (p : Int) := by rw [← hp]; simp
  have hpb : p < 340282366920938463463374607431768211456 := by
    rw [← hp]
    calc n * q ≤ 18446744073709551615 * 18446744073709551615 := Nat.mul_le_mul (by omega) (by omega)
      _ < _ := by decide
  rw [hp] at M
  have S := fun W => Rem64_at hm ((p / 18446744073709551616 : Nat) : Int) ((p % 18446744073709551616 : Nat) : Int) W (by omega) (by omega) (by omega) (by omega)
  have e : ((p / 18446744073709551616 : Nat) : Int) * 18446744073709551616 + ((p % 18446744073709551616 : Nat) : Int) = (p : Int) := by omega
  rw [e] at S
  have hz : (p : Int) % m = Gm.mul m n q := by unfold Gm.mul; rw [hp2]
  rw [hz] at S
  obtain ⟨z, hz⟩ : ∃ z, Gm.mul m n q = z := ⟨_, rfl⟩
  obtain ⟨u, hu⟩ : ∃ u : Int, ((p / 18446744073709551616 : Nat) : Int) = u := ⟨_, rfl⟩
  obtain ⟨v, hv⟩ : ∃ v : Int, ((p % 18446744073709551616 : Nat) : Int) = v := ⟨_, rfl⟩
  rw [hz] at S ⊢
  rw [hu, hv] at S M
  clear hz hu hv e hpb hp hp2
  go_enter Tryz.func56, Tryz.ntmps56
  go_wp2_with fail
  refine (M _).mono ?_; rintro e w' ⟨rfl, rfl⟩
  go_wp2_with fail
  refine (S _).mono ?_; rintro e w' ⟨rfl, hb⟩
  go_wp2_with fail
  go_ret
  exact ⟨rfl, hb⟩
theorem GMul_any (a b : Int) (w : World) (a0 : 0 ≤ a) (b0 : 0 ≤ b) (a1 : a < 18446744073709551616) (b1 : b < 18446744073709551616) :
    Calls Tryz.prog 33 #[.int .u64 a, .int .u64 b] w fun e w' => e = .returned (.int .u64 (Gm.mul Gm.Q a b)) ∧ Below w.heap.size w w' := by
  have S := fun W => rmul_any modl_Q a b W a0 b0 a1 b1
  go_enter Tryz.func33, Tryz.ntmps33
  go_wp2_with fail
  refine (S _).mono ?_; rintro e w' ⟨rfl, hb⟩
  go_wp2_with fail
  go_ret
  exact ⟨rfl, hb⟩
theorem GMulR_any (a b : Int) (w : World) (a0 : 0 ≤ a) (b0 : 0 ≤ b) (a1 : a < 18446744073709551616) (b1 : b < 18446744073709551616) :
    Calls Tryz.prog 24 #[.int .u64 a, .int .u64 b] w fun e w' => e = .returned (.int .u64 (Gm.mul Gm.R a b)) ∧ Below w.heap.size w w' := by
  have S := fun W => rmul_any modl_R a b W a0 b0 a1 b1
  go_enter Tryz.func24, Tryz.ntmps24
  go_wp2_with fail
  refine (S _).mono ?_; rintro e w' ⟨rfl, hb⟩
  go_wp2_with fail
  go_ret
  exact ⟨rfl, hb⟩
theorem GAddR_any (a b : Int) (w : World) (a0 : 0 ≤ a) (b0 : 0 ≤ b) (a1 : a < 18446744073709551616) (b1 : b < 18446744073709551616) :
    Calls Tryz.prog 23 #[.int .u64 a, .int .u64 b] w fun e w' => e = .returned (.int .u64 (Gm.add Gm.R a b)) ∧ Below w.heap.size w w' := by
  have S := fun W => radd_any modl_R a b W a0 b0 a1 b1
  go_enter Tryz.func23, Tryz.ntmps23
  go_wp2_with fail
  refine (S _).mono ?_; rintro e w' ⟨rfl, hb⟩
  go_wp2_with fail
  go_ret
  exact ⟨rfl, hb⟩
theorem GSubR_any (a b : Int) (w : World) (a0 : 0 ≤ a) (b0 : 0 ≤ b) (a1 : a < 18446744073709551616) (_b1 : b < 18446744073709551616) :
    Calls Tryz.prog 53 #[.int .u64 a, .int .u64 b] w fun e w' => e = .returned (.int .u64 (Gm.sub a b)) ∧ Below w.heap.size w w' := by
  obtain ⟨y, hy⟩ : ∃ r, b % 1152921504606845789 = r := ⟨_, rfl⟩
  have e1 : b.tmod 1152921504606845789 = y := by rw [Int.tmod_eq_emod_of_nonneg b0, hy]
  have e2 : IntKind.u64.wrap y = y := by rw [IntKind.wrap_u64]; omega
  have e3 : IntKind.u64.wrap (1152921504606845789 - y) = 1152921504606845789 - y := by rw [IntKind.wrap_u64]; omega
  have S := fun W => radd_any modl_R a (1152921504606845789 - y) W a0 (by omega) a1 (by omega)
  have hz : Gm.add 1152921504606845789 a (1152921504606845789 - y) = Gm.sub a b := by unfold Gm.sub; rw [← hy]; rfl
  rw [hz] at S
  clear hz hy
  go_enter Tryz.func53, Tryz.ntmps53
  go_wp2_with fail
  refine (S _).mono ?_; rintro e w' ⟨rfl, hb⟩
  go_wp2_with fail
  go_ret
  exact ⟨rfl, hb⟩
end Go.Proofs.YtlaidjgdipacgaaGreatDoor
