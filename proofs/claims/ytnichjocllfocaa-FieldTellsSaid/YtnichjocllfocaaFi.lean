/-
  The walk over field.Inv.
-/
import Derived.Test.YtnichjocllfocaaFw
namespace Go.Proofs.Ytnichjocllfocaa
open Go.RowKit

theorem ret_pair {k k2 : IntKind} {a b c : Int} (h : a = b) : Ending.returned (.tuple #[.int k a, .int k2 c]) = .returned (.tuple #[.int k b, .int k2 c]) := by rw [h]

theorem Euclid_le (r s : Int) (h0 : 0 ≤ r) (h1 : 1 ≤ s) : 0 ≤ r / s ∧ r / s ≤ r ∧ 0 ≤ r / s * s ∧ r / s * s ≤ r ∧ 0 ≤ r - r / s * s ∧ r - r / s * s < s := by
  have h2 := Int.ediv_nonneg h0 (show 0 ≤ s by omega)
  have h3 := Int.ediv_mul_le r (show s ≠ 0 by omega)
  have h4 := Int.mul_nonneg h2 (show 0 ≤ s by omega)
  have h5 := Int.ediv_le_self s h0
  have h6 := Int.emod_lt_of_pos r (show 0 < s by omega)
  have h7 : r - r / s * s = r % s := by rw [Int.emod_def, Int.mul_comm]
  exact ⟨h2, h5, h4, h3, by omega, by omega⟩

set_option maxHeartbeats 400000 in
theorem Inv_zero (a : Int) (w : World) (ha : U64 a) (hz : a % Fm.P = 0) :
    Calls Try.prog 17 #[.int .u64 a] w fun e w' => e = .returned (.tuple #[.int .u64 0, .int .i64 10]) ∧ w = w' := by
  have Hz := Lib.hid hz; clear hz
  go_enter Try.func17, Try.ntmps17
  go_wp2_with fail
  refine (one_any a _ ha).mono ?_; rintro e w' ⟨rfl, rfl⟩
  rw [Hz.out]
  go_wp2_with fail
  go_ret2
  exact ⟨rfl, rfl⟩

set_option maxHeartbeats 800000 in
theorem Inv_some (a : Int) (w : World) (ha : U64 a) (hz : a % Fm.P ≠ 0) :
    Calls Try.prog 17 #[.int .u64 a] w fun e w' => e = .returned (.tuple #[.int .u64 (Fm.inv a), .int .i64 0]) ∧ w = w' := by
  obtain ⟨a1, ha1⟩ : ∃ a1, a % Fm.P = a1 := ⟨_, rfl⟩
  have hr := Fm.rng a
  have hg := Fm.gcd_start a hz
  rw [ha1] at hz hr hg
  have hb : (a1 == 0) = false := by simpa using hz
  have Ha := Lib.hid ha1
  have Hr := Lib.hid hr
  have Hg := Lib.hid hg
  clear hz ha1 hr hg
  go_enter Try.func17, Try.ntmps17
  go_wp2_with fail
  refine (one_any a _ ha).mono ?_; rintro e w' ⟨rfl, rfl⟩
  rw [Ha.out]
  go_wp2_with fail
  go_loop [4, 5, 6, 7, 8] (fun r s x y _ => ∃ r' s' x' y' : Int, r = .int .u64 r' ∧ s = .int .u64 s' ∧ x = .int .u64 x' ∧ y = .int .u64 y' ∧
      Hid (0 ≤ s' ∧ s' < r' ∧ r' ≤ Fm.P) ∧ Hid (0 ≤ x' ∧ x' < Fm.P) ∧ Hid (0 ≤ y' ∧ y' < Fm.P) ∧ Hid (Fm.mul x' a = r' % Fm.P) ∧ Hid (Fm.mul y' a = s' % Fm.P) ∧ Hid (Int.gcd r' s' = 1)) (fun _ s _ _ _ => (intOf s).toNat)
  case atStart =>
    refine ⟨_, _, _, _, rfl, rfl, rfl, rfl, Lib.hid ⟨Hr.out.1, Hr.out.2, by unfold Fm.P; omega⟩, Lib.hid ⟨by omega, Fm.P_pos⟩, Lib.hid ⟨by omega, by unfold Fm.P; omega⟩, Lib.hid ?_, Lib.hid ?_, Hg⟩
    · rw [Fm.mul_comm, Fm.mul_zero]; rfl
    · rw [Fm.one_mul, Ha.out, ← Ha.out, Int.emod_emod]
  case round =>
    obtain ⟨r, s, x, y, rfl, rfl, rfl, rfl, H1, H2, H3, H4, H5, H6⟩ := hrel
    have hs0 := H1.out.1
    by_cases hs : 1 ≤ s
    · have hle := Euclid_le r s (by have := H1.out; omega) hs
      have hrP : r ≤ 2305843009213693951 := H1.out.2.2
      obtain ⟨q, hq⟩ : ∃ q, r / s = q := ⟨_, rfl⟩
      have hst := Fm.euclid_step a r s x y (r / s) H4.out H5.out
      have hgs := Fm.gcd_step r s (by have := H1.out; omega) (by omega)
      rw [H6.out] at hgs
      rw [hq] at hle hst hgs
      have e1 : IntKind.u64.wrap (r.tdiv s) = q := by rw [← hq]; exact IntWalk.u64_quo _ _ (by have := H1.out; omega)
      have e2 : IntKind.u64.wrap (q * s) = q * s := IntWalk.u64_in _ (by omega)
      have e3 : IntKind.u64.wrap (r - q * s) = r - q * s := IntWalk.u64_in _ (by omega)
      have uq : U64 q := ⟨by omega, by omega⟩
      have Hle := Lib.hid hle
      have Hst := Lib.hid hst
      have Hgs := Lib.hid hgs
      have ux := U64.of_rng H2.out
      have uy := U64.of_rng H3.out
      have um := U64.of_rng (Fm.mul_rng q y)
      have hlt : s < r := H1.out.2.1
      clear hle hst hgs hrP hq
      go_wp2_with fail
      refine (Mul_any _ _ _ uq uy).mono ?_; rintro e w' ⟨rfl, rfl⟩
      go_wp2_with fail
      refine (Sub_any _ _ _ ux um).mono ?_; rintro e w' ⟨rfl, rfl⟩
      go_wp2_with fail
      go_round
      case rel => exact ⟨_, _, _, _, rfl, rfl, rfl, rfl, Lib.hid ⟨Hle.out.2.2.2.2.1, Hle.out.2.2.2.2.2, by have := H1.out; omega⟩, H3, Lib.hid (Fm.sub_rng _ _), H5, Hst, Hgs⟩
      case measure => have := Hle.out; simp [intOf]; omega
    · obtain rfl : s = 0 := by omega
      have hg := H6.out
      have hr1 : r = 1 := by
        have h1 := H1.out
        obtain ⟨n, rfl⟩ := Int.eq_ofNat_of_zero_le (show 0 ≤ r by omega)
        simp at hg; omega
      have hx : x = Fm.inv a := Fm.inv_unique a x H2.out.1 H2.out.2 (by rw [H4.out, hr1]; rfl)
      have Hx := Lib.hid hx
      clear hg hr1 hx
      go_wp2_with fail
      go_ret2
      exact ⟨ret_pair Hx.out, rfl⟩
end Go.Proofs.Ytnichjocllfocaa
