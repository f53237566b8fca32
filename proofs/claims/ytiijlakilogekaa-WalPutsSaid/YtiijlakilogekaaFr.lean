/-
  Walks over package greatsealref01: Add, Sub, Mul, Pow, Inv.
-/
import Derived.Test.YtiijlakilogekaaFw
namespace Go.Proofs.Ytiijlakilogekaa
open Go.RowKit

set_option maxHeartbeats 400000 in
theorem RAdd_any (a b : Int) (w : World) (ha : U64 a) (hb : U64 b) :
    Calls Try.prog 38 #[.int .u64 a, .int .u64 b] w fun e w' => e = .returned (.int .u64 (Fm.add a b)) ∧ w = w' := by
  obtain ⟨x, hx⟩ : ∃ x, a.tmod 2305843009213693951 = x := ⟨_, rfl⟩
  obtain ⟨y, hy⟩ : ∃ y, b.tmod 2305843009213693951 = y := ⟨_, rfl⟩
  have hx' : a % Fm.P = x := by rw [← hx]; exact (Int.tmod_eq_emod_of_nonneg ha.1).symm
  have hy' : b % Fm.P = y := by rw [← hy]; exact (Int.tmod_eq_emod_of_nonneg hb.1).symm
  have ra := Fm.rng a
  have rb := Fm.rng b
  rw [hx'] at ra; rw [hy'] at rb
  have e1 : IntKind.u64.wrap (x + y) = x + y := IntWalk.u64_in _ (by have := ra; have := rb; unfold Fm.P at *; omega)
  have e2 : (x + y).tmod 2305843009213693951 = Fm.add a b := by
    rw [Int.tmod_eq_emod_of_nonneg (by omega), ← hx', ← hy', Fm.add]
    show (a % Fm.P + b % Fm.P) % Fm.P = _
    rw [Int.emod_add_emod, Int.add_emod_emod]
  clear ra rb hx' hy' ha hb
  go_enter Try.func38, Try.ntmps38
  go_wp2
  go_ret
  exact ⟨rfl, rfl⟩

set_option maxHeartbeats 800000 in
theorem RMul_any (a b : Int) (w : World) (ha : U64 a) (hb : U64 b) :
    Calls Try.prog 52 #[.int .u64 a, .int .u64 b] w fun e w' => e = .returned (.int .u64 (Fm.mul a b)) ∧ w = w' := by
  obtain ⟨x, hx⟩ : ∃ x, a.tmod 2305843009213693951 = x := ⟨_, rfl⟩
  obtain ⟨y, hy⟩ : ∃ y, b.tmod 2305843009213693951 = y := ⟨_, rfl⟩
  have hx' : a % Fm.P = x := by rw [← hx]; exact (Int.tmod_eq_emod_of_nonneg ha.1).symm
  have hy' : b % Fm.P = y := by rw [← hy]; exact (Int.tmod_eq_emod_of_nonneg hb.1).symm
  have ra := Fm.rng a
  have rb := Fm.rng b
  rw [hx'] at ra; rw [hy'] at rb
  have Ra := Lib.hid ra; have Rb := Lib.hid rb
  have Hx := Lib.hid hx'; have Hy := Lib.hid hy'
  clear ra rb hx' hy' ha hb
  go_enter Try.func52, Try.ntmps52
  go_wp2_with fail
  go_loop [0, 1, 5] (fun p q o => ∃ p' q' o' : Int, p = .int .u64 p' ∧ q = .int .u64 q' ∧ o = .int .u64 o' ∧ Hid (0 ≤ p' ∧ p' < Fm.P) ∧ Hid (0 ≤ q' ∧ q' < Fm.P) ∧ Hid (0 ≤ o' ∧ o' < Fm.P) ∧
      Hid (Fm.add o' (Fm.mul p' q') = Fm.mul a b)) (fun _ q _ => (intOf q).toNat)
  case atStart =>
    refine ⟨_, _, _, rfl, rfl, rfl, Ra, Rb, Lib.hid ⟨by omega, Fm.P_pos⟩, Lib.hid ?_⟩
    rw [← Hx.out, ← Hy.out, Fm.mul_emod_l, Fm.mul_emod_r]; unfold Fm.add; rw [Int.zero_add]; exact Fm.mod_small _ (Fm.mul_rng _ _).1 (Fm.mul_rng _ _).2
  case round =>
    obtain ⟨p, q, o, rfl, rfl, rfl, Hp, Hq, Ho, HH⟩ := hrel
    have hq0 := Hq.out.1
    have up := U64.of_rng Hp.out
    have uo := U64.of_rng Ho.out
    by_cases hq : 1 ≤ q
    · have hqP : q ≤ 18446744073709551615 := by have := Hq.out.2; unfold Fm.P at this; omega
      have e1 : q.tmod 2 = q % 2 := Int.tmod_eq_emod_of_nonneg hq0
      have e2 : IntKind.u64.wrap (q.tdiv 2) = q / 2 := IntWalk.u64_quo _ _ ⟨hq0, hqP, by omega⟩
      have Hq2 := Lib.hid (show 0 ≤ q / 2 ∧ q / 2 < Fm.P by have := Hq.out; unfold Fm.P at *; omega)
      have H1 := Lib.hid (Fm.add_rng p p)
      have H2 := Lib.hid (Fm.add_rng o p)
      have hdbl : Fm.mul (Fm.add p p) (q / 2) = Fm.mul p (2 * (q / 2)) := by
        unfold Fm.add; rw [Fm.mul_emod_l]; unfold Fm.mul; congr 1; grind
      clear hqP
      by_cases hb : q % 2 = 1
      · have hb' : (q % 2 == 1) = true := by simpa using hb
        have HN := Lib.hid (show Fm.add (Fm.add o p) (Fm.mul (Fm.add p p) (q / 2)) = Fm.mul a b by
          rw [← HH.out, Fm.add_assoc, hdbl]; congr 1
          rw [show Fm.mul p q = Fm.mul p (1 + 2 * (q / 2)) by congr 1; omega]
          show (p + p * (2 * (q / 2)) % Fm.P) % Fm.P = p * (1 + 2 * (q / 2)) % Fm.P
          rw [Int.add_emod_emod, Int.mul_add, Int.mul_one])
        clear hdbl hb
        go_wp2_with fail
        refine (RAdd_any _ _ _ uo up).mono ?_; rintro e w' ⟨rfl, rfl⟩
        go_wp2_with fail
        refine (RAdd_any _ _ _ up up).mono ?_; rintro e w' ⟨rfl, rfl⟩
        go_wp2_with fail
        go_round
        case rel => exact ⟨_, _, _, rfl, rfl, rfl, H1, Hq2, H2, HN⟩
        case measure => simp [intOf]; omega
      · have hb' : (q % 2 == 1) = false := by simpa using hb
        have HN := Lib.hid (show Fm.add o (Fm.mul (Fm.add p p) (q / 2)) = Fm.mul a b by
          rw [← HH.out, hdbl]; congr 2; omega)
        clear hdbl hb
        go_wp2_with fail
        refine (RAdd_any _ _ _ up up).mono ?_; rintro e w' ⟨rfl, rfl⟩
        go_wp2_with fail
        go_round
        case rel => exact ⟨_, _, _, rfl, rfl, rfl, H1, Hq2, Ho, HN⟩
        case measure => simp [intOf]; omega
    · obtain rfl : q = 0 := by omega
      have hfin : o = Fm.mul a b := by
        rw [← HH.out, Fm.mul, Int.mul_zero, Int.zero_emod, Fm.add, Int.add_zero, Fm.mod_small _ Ho.out.1 Ho.out.2]
      have Hf := Lib.hid hfin; clear hfin
      go_wp2_with fail
      go_ret
      exact ⟨ret_int Hf.out, rfl⟩
end Go.Proofs.Ytiijlakilogekaa
