/-
  The walk over hash.Num.
-/
import Derived.Test.YtlaidjgdipacgaaGreatDoorNv
import Derived.Test.YtlaidjgdipacgaaGreatDoorHs
import Derived.Test.YtlaidjgdipacgaaGreatDoorWb
import Derived.Laws.Externs
namespace Go.Proofs.YtlaidjgdipacgaaGreatDoor
open Go.RowKit

theorem add64_0 (x y : Int) (hx : 0 ≤ x) (hy : 0 ≤ y) (h : x + y < 18446744073709551616) (w : World) : (callFunc 89 #[.int .u64 x, .int .u64 y, .int .u64 0]).run Tryz.prog w =
    .ok (.value (.tuple #[.int .u64 (x + y), .int .u64 0])) w := by
  rw [run_callFunc_extern Tryz.func89 (by kernel_rfl) (by kernel_rfl) (by kernel_rfl) (e := add64Entry) (by kernel_rfl), run_add64 x y 0 (by omega) (by omega) (by omega) (by omega)]
  rw [show (x + y + 0) % 18446744073709551616 = x + y by omega, show (x + y + 0) / 18446744073709551616 = 0 by omega]
  rfl

set_option maxRecDepth 100000 in
set_option maxHeartbeats 1000000 in
theorem Num_any (a b m : Int) (w : World) (ha0 : 0 ≤ a) (ha1 : a < 2305843009213693952) (hb0 : 0 ≤ b) (hb1 : b < 2305843009213693952) (hm : 8 ≤ m) (hm1 : m ≤ 8192) :
    Calls Tryz.prog 57 #[.agg #[.int .u64 a, .int .u64 b], .int .u64 m] w fun e w' => e = .returned (.int .u64 (Sm.num a b m)) ∧ Below w.heap.size w w' := by
  obtain ⟨n, rfl⟩ := Int.eq_ofNat_of_zero_le ha0
  obtain ⟨q, hq⟩ : ∃ q : Nat, (q : Int) = 2305843009213693952 := ⟨2305843009213693952, rfl⟩
  have hqn : n * q = n * 2305843009213693952 := by rw [show q = 2305843009213693952 by omega]
  obtain ⟨h, hh⟩ : ∃ h : Int, ((n * q / 18446744073709551616 : Nat) : Int) = h := ⟨_, rfl⟩
  obtain ⟨l, hl⟩ : ∃ l : Int, ((n * q % 18446744073709551616 : Nat) : Int) = l := ⟨_, rfl⟩
  rw [hqn] at hh hl
  have hl0 : 0 ≤ l := by omega
  have hlb : l + b < 18446744073709551616 := by omega
  have hv : (n : Int) * 2305843009213693952 + b = h * 18446744073709551616 + (l + b) := by omega
  have hh0 : 0 ≤ h := by omega
  have hhb : h < 2305843009213693952 := by omega
  obtain ⟨r, hr⟩ : ∃ r : Int, h % m = r := ⟨_, rfl⟩
  have hr0 : 0 ≤ r := by rw [← hr]; exact Int.emod_nonneg _ (by omega)
  have hrm : r < m := by rw [← hr]; exact Int.emod_lt_of_pos _ (by omega)
  have e1 : h.tmod m = r := by rw [Int.tmod_eq_emod_of_nonneg hh0, hr]
  have e2 : (r * 18446744073709551616 + (l + b)) % m = Sm.num n b m := by
    unfold Sm.num
    rw [hv, ← hr, Int.add_emod, Int.mul_emod, Int.emod_emod, ← Int.mul_emod, ← Int.add_emod]
  have hmz : ¬ m = 0 := by omega
  have S := Sh.bits_Mul64 n q (by omega) (by omega)
  rw [hqn, hh, hl, hq] at S
  have A := add64_0 l b hl0 hb0 hlb
  have D := fun W => Div64_small r (l + b) m W hm hm1 hr0 hrm (by omega) hlb
  rw [e2] at D
  have w0 : IntKind.u64.wrap (h + 0) = h := by rw [IntKind.wrap_u64]; omega
  have w1 : IntKind.u64.wrap h = h := by rw [IntKind.wrap_u64]; omega
  clear hh hl hqn hq hl0 hlb hv hh0 hhb hr hr0 hrm e2 ha0 ha1 hb0 hb1 hm hm1
  have dS := Duo.new w 53 (.int .u64 n) (.int .u64 b)
  have s0 := dS.cell0; have s1 := dS.cell1
  go_enter Tryz.func57, Tryz.ntmps57
  go_wp2_with fail
  refine (S _).mono ?_; rintro e w' ⟨rfl, rfl⟩
  go_wp2_with fail
  refine (D _).mono ?_; rintro e w' ⟨q, rfl, hb⟩
  go_wp2_with fail
  go_ret
  exact ⟨rfl, ((Below.refl _ w).alloc (Nat.le_refl _) _).trans (hb.mono (by simp))⟩
end Go.Proofs.YtlaidjgdipacgaaGreatDoor
