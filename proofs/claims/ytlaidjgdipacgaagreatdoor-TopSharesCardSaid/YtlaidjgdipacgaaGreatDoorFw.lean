/-
  Walks over package field: what each function computes.
-/
import Derived.Test.YtlaidjgdipacgaaGreatDoorRows
import Derived.Test.YtlaidjgdipacgaaGreatDoorWa
import Derived.Test.YtlaidjgdipacgaaGreatDoorSh1
import Derived.WalkKit
import Derived.WalkSpells
import Derived.WalkLawsBesides
import Derived.Lib.Hide
namespace Go.Proofs.YtlaidjgdipacgaaGreatDoor
open Go.RowKit

theorem ret_int {k : IntKind} {a b : Int} (h : a = b) : Ending.returned (.int k a) = .returned (.int k b) := by rw [h]

set_option maxHeartbeats 400000 in
theorem fold_any (hi lo : Int) (w : World) (h0 : 0 ≤ hi) (h1 : hi < 288230376151711744) (l0 : 0 ≤ lo) (l1 : lo < 18446744073709551616) :
    Calls Tryz.prog 159 #[.int .u64 hi, .int .u64 lo] w fun e w' => e = .returned (.int .u64 ((hi * 18446744073709551616 + lo) % Fm.P)) ∧ w = w' := by
  obtain ⟨n, m, e1, e2, ⟨e3, e4⟩ | ⟨e3, e4⟩⟩ := Fb.fold_is hi lo h0 h1 l0 l1
  · clear h0 h1 l0 l1
    go_enter Tryz.func159, Tryz.ntmps159
    go_wp2
    go_ret
    exact ⟨rfl, rfl⟩
  · have E4 := Lib.hid e4
    clear h0 h1 l0 l1 e4
    go_enter Tryz.func159, Tryz.ntmps159
    go_wp2
    go_ret
    exact ⟨ret_int E4.out, rfl⟩

/-- A number that 64 bits hold. -/
def U64 (x : Int) : Prop := 0 ≤ x ∧ x < 18446744073709551616
theorem U64.of_rng {x : Int} (h : 0 ≤ x ∧ x < Fm.P) : U64 x := by unfold Fm.P at h; exact ⟨h.1, by omega⟩

set_option maxHeartbeats 400000 in
theorem one_any (a : Int) (w : World) (h : U64 a) :
    Calls Tryz.prog 134 #[.int .u64 a] w fun e w' => e = .returned (.int .u64 (a % Fm.P)) ∧ w = w' := by
  go_enter Tryz.func134, Tryz.ntmps134
  go_wp2_with (go_at_call 159; refine (fold_any _ _ _ (by omega) (by omega) h.1 h.2).mono ?_; rintro e w' ⟨rfl, rfl⟩)
  go_ret
  exact ⟨ret_int (by simp), rfl⟩

set_option maxHeartbeats 400000 in
theorem Add_any (a b : Int) (w : World) (ha : U64 a) (hb : U64 b) :
    Calls Tryz.prog 109 #[.int .u64 a, .int .u64 b] w fun e w' => e = .returned (.int .u64 (Fm.add a b)) ∧ w = w' := by
  have ra := Fm.rng a
  have rb := Fm.rng b
  obtain ⟨x, hx⟩ : ∃ x, a % Fm.P = x := ⟨_, rfl⟩
  obtain ⟨y, hy⟩ : ∃ y, b % Fm.P = y := ⟨_, rfl⟩
  rw [hx] at ra; rw [hy] at rb
  have e1 : IntKind.u64.wrap (x + y) = x + y := IntWalk.u64_in _ (by have := ra; have := rb; unfold Fm.P at *; omega)
  have hxy : U64 (x + y) := by have := ra; have := rb; unfold Fm.P at *; exact ⟨by omega, by omega⟩
  have hfin : (x + y) % Fm.P = Fm.add a b := by rw [← hx, ← hy, Fm.add, Int.emod_add_emod, Int.add_emod_emod]
  have Hf := Lib.hid hfin
  clear ra rb hfin
  go_enter Tryz.func109, Tryz.ntmps109
  go_wp2_with fail
  refine (one_any a _ ha).mono ?_; rintro e w' ⟨rfl, rfl⟩
  go_wp2_with fail
  refine (one_any b _ hb).mono ?_; rintro e w' ⟨rfl, rfl⟩
  go_wp2_with fail
  refine (one_any (x + y) _ hxy).mono ?_; rintro e w' ⟨rfl, rfl⟩
  go_wp2_with fail
  go_ret
  exact ⟨ret_int Hf.out, rfl⟩

theorem Mul64_any (a b : Int) (w : World) (ha : U64 a) (hb : U64 b) :
    Calls Tryz.prog 91 #[.int .u64 a, .int .u64 b] w fun e w' => e = .returned (.tuple #[.int .u64 (a * b / 18446744073709551616), .int .u64 (a * b % 18446744073709551616)]) ∧ w = w' := by
  obtain ⟨n, rfl⟩ := Int.eq_ofNat_of_zero_le ha.1
  obtain ⟨m, rfl⟩ := Int.eq_ofNat_of_zero_le hb.1
  refine (Sh.bits_Mul64 n m (by have := ha.2; omega) (by have := hb.2; omega) w).mono fun e w' ⟨h1, h2⟩ => ⟨?_, h2.symm⟩
  rw [h1]; rfl

set_option maxHeartbeats 400000 in
theorem Mul_any (a b : Int) (w : World) (ha : U64 a) (hb : U64 b) :
    Calls Tryz.prog 160 #[.int .u64 a, .int .u64 b] w fun e w' => e = .returned (.int .u64 (Fm.mul a b)) ∧ w = w' := by
  have ra := Fm.rng a
  have rb := Fm.rng b
  obtain ⟨x, hx⟩ : ∃ x, a % Fm.P = x := ⟨_, rfl⟩
  obtain ⟨y, hy⟩ : ∃ y, b % Fm.P = y := ⟨_, rfl⟩
  rw [hx] at ra; rw [hy] at rb
  have ux : U64 x := U64.of_rng ra
  have uy : U64 y := U64.of_rng rb
  have hlt : x * y ≤ 2305843009213693950 * 2305843009213693950 := by
    have h1 : x ≤ 2305843009213693950 := by have := ra.2; unfold Fm.P at this; omega
    have h2 : y ≤ 2305843009213693950 := by have := rb.2; unfold Fm.P at this; omega
    exact Int.mul_le_mul h1 h2 rb.1 (by omega)
  have hge : 0 ≤ x * y := Int.mul_nonneg ra.1 rb.1
  obtain ⟨hi, hhi⟩ : ∃ hi, x * y / 18446744073709551616 = hi := ⟨_, rfl⟩
  obtain ⟨lo, hlo⟩ : ∃ lo, x * y % 18446744073709551616 = lo := ⟨_, rfl⟩
  have b1 : 0 ≤ hi := by omega
  have b2 : hi < 288230376151711744 := by omega
  have b3 : 0 ≤ lo := by omega
  have b4 : lo < 18446744073709551616 := by omega
  have hfin : (hi * 18446744073709551616 + lo) % Fm.P = Fm.mul a b := by
    rw [show hi * 18446744073709551616 + lo = x * y from by omega, ← hx, ← hy, Fm.mul, ← Int.mul_emod]
  have Hf := Lib.hid hfin
  have Hlo := Lib.hid hlo
  have Hhi := Lib.hid hhi
  have B2 := Lib.hid b2
  have B4 := Lib.hid b4
  clear ra rb hfin hlt hge hlo hhi b2 b4
  go_enter Tryz.func160, Tryz.ntmps160
  go_wp2_with fail
  refine (one_any a _ ha).mono ?_; rintro e w' ⟨rfl, rfl⟩
  go_wp2_with fail
  refine (one_any b _ hb).mono ?_; rintro e w' ⟨rfl, rfl⟩
  go_wp2_with fail
  refine (Mul64_any x y _ ux uy).mono ?_; rintro e w' ⟨rfl, rfl⟩
  rw [Hhi.out, Hlo.out]
  go_wp2_with fail
  refine (fold_any hi lo _ b1 B2.out b3 B4.out).mono ?_; rintro e w' ⟨rfl, rfl⟩
  go_wp2_with fail
  go_ret
  exact ⟨ret_int Hf.out, rfl⟩

theorem U64.of_wf {x : Int} (h : (Lit.int .u64 x).wf = true) : U64 x := by
  simp [Lit.wf, IntKind.min, IntKind.max, IntKind.bits, IntKind.signed] at h; unfold U64; omega
end Go.Proofs.YtlaidjgdipacgaaGreatDoor
