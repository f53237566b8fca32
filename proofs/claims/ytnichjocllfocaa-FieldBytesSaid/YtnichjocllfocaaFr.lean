/-
  Walks over package greatsealref01: Add, Sub, Mul, Pow, Inv.
-/
import Derived.Test.YtnichjocllfocaaFw
namespace Go.Proofs.Ytnichjocllfocaa
open Go.RowKit

set_option maxHeartbeats 400000 in
theorem RAdd_any (a b : Int) (w : World) (ha : U64 a) (hb : U64 b) :
    Calls Try.prog 14 #[.int .u64 a, .int .u64 b] w fun e w' => e = .returned (.int .u64 (Fm.add a b)) ∧ w = w' := by
  obtain ⟨x, hx⟩ : ∃ x, a.tmod 2305843009213693951 = x := ⟨_, rfl⟩
  obtain ⟨y, hy⟩ : ∃ y, b.tmod 2305843009213693951 = y := ⟨_, rfl⟩
  have hx' : a % Fm.P = x := by rw [← hx]; exact (Int.tmod_eq_emod_of_nonneg ha.1).symm
  have hy' : b % Fm.P = y := by rw [← hy]; exact (Int.tmod_eq_emod_of_nonneg hb.1).symm
  have ra := Fm.rng a
  have rb := Fm.rng b
  rw [hx'] at ra; rw [hy'] at rb
  have e1 : IntKind.u64.wrap (x + y) = x + y := IntWalk.u64_in _ (by have := ra; have := rb; unfold Fm.P at *; omega)
  have e2 : (x + y).tmod 2305843009213693951 = Fm.add a b := by
    rw [Int.tmod_eq_emod_of_nonneg (by omega), ← hx', ← hy', Fm.add]
    show (a % Fm.P + b % Fm.P) % Fm.P = _
    rw [Int.emod_add_emod, Int.add_emod_emod]
  clear ra rb hx' hy' ha hb
  go_enter Try.func14, Try.ntmps14
  go_wp2
  go_ret
  exact ⟨rfl, rfl⟩

set_option maxHeartbeats 400000 in
theorem RSub_any (a b : Int) (w : World) (ha : U64 a) (hb : U64 b) :
    Calls Try.prog 16 #[.int .u64 a, .int .u64 b] w fun e w' => e = .returned (.int .u64 (Fm.sub a b)) ∧ w = w' := by
  obtain ⟨x, hx⟩ : ∃ x, a.tmod 2305843009213693951 = x := ⟨_, rfl⟩
  obtain ⟨y, hy⟩ : ∃ y, b.tmod 2305843009213693951 = y := ⟨_, rfl⟩
  have hx' : a % Fm.P = x := by rw [← hx]; exact (Int.tmod_eq_emod_of_nonneg ha.1).symm
  have hy' : b % Fm.P = y := by rw [← hy]; exact (Int.tmod_eq_emod_of_nonneg hb.1).symm
  have ra := Fm.rng a
  have rb := Fm.rng b
  rw [hx'] at ra; rw [hy'] at rb
  obtain ⟨s, hs⟩ : ∃ s, Fm.P - y = s := ⟨_, rfl⟩
  have e0 : IntKind.u64.wrap (2305843009213693951 - y) = s := by rw [← hs]; exact IntWalk.u64_in _ (by have := rb; unfold Fm.P at *; omega)
  have e1 : IntKind.u64.wrap (x + s) = x + s := by rw [← hs]; exact IntWalk.u64_in _ (by have := ra; have := rb; unfold Fm.P at *; omega)
  have e2 : (x + s).tmod 2305843009213693951 = Fm.sub a b := by
    rw [Int.tmod_eq_emod_of_nonneg (by omega), ← hs, ← hx', ← hy', Fm.sub]
    show (a % Fm.P + (Fm.P - b % Fm.P)) % Fm.P = _
    rw [show a % Fm.P + (Fm.P - b % Fm.P) = a % Fm.P - b % Fm.P + Fm.P by omega, Int.add_emod_right, Int.emod_sub_emod, Int.sub_emod_emod]
  clear ra rb hx' hy' ha hb hs
  go_enter Try.func16, Try.ntmps16
  go_wp2
  go_ret
  exact ⟨rfl, rfl⟩

set_option maxHeartbeats 800000 in
theorem RMul_any (a b : Int) (w : World) (ha : U64 a) (hb : U64 b) :
    Calls Try.prog 20 #[.int .u64 a, .int .u64 b] w fun e w' => e = .returned (.int .u64 (Fm.mul a b)) ∧ w = w' := by
  obtain ⟨x, hx⟩ : ∃ x, a.tmod 2305843009213693951 = x := ⟨_, rfl⟩
  obtain ⟨y, hy⟩ : ∃ y, b.tmod 2305843009213693951 = y := ⟨_, rfl⟩
  have hx' : a % Fm.P = x := by rw [← hx]; exact (Int.tmod_eq_emod_of_nonneg ha.1).symm
  have hy' : b % Fm.P = y := by rw [← hy]; exact (Int.tmod_eq_emod_of_nonneg hb.1).symm
  have ra := Fm.rng a
  have rb := Fm.rng b
  rw [hx'] at ra; rw [hy'] at rb
  have Ra := Lib.hid ra; have Rb := Lib.hid rb
  have Hx := Lib.hid hx'; have Hy := Lib.hid hy'
  clear ra rb hx' hy' ha hb
  go_enter Try.func20, Try.ntmps20
  go_wp2_with fail
  go_loop [0, 1, 5] (fun p q o => ∃ p' q' o' : Int, p = .int .u64 p' ∧ q = .int .u64 q' ∧ o = .int .u64 o' ∧ Hid (0 ≤ p' ∧ p' < Fm.P) ∧ Hid (0 ≤ q' ∧ q' < Fm.P) ∧ Hid (0 ≤ o' ∧ o' < Fm.P) ∧
      Hid (Fm.add o' (Fm.mul p' q') = Fm.mul a b)) (fun _ q _ => (intOf q).toNat)
  case atStart =>
    refine ⟨_, _, _, rfl, rfl, rfl, Ra, Rb, Lib.hid ⟨by omega, Fm.P_pos⟩, Lib.hid ?_⟩
    rw [← Hx.out, ← Hy.out, Fm.mul_emod_l, Fm.mul_emod_r]; unfold Fm.add; rw [Int.zero_add]; exact Fm.mod_small _ (Fm.mul_rng _ _).1 (Fm.mul_rng _ _).2
  case round =>
    obtain ⟨p, q, o, rfl, rfl, rfl, Hp, Hq, Ho, HH⟩ := hrel
    have hq0 := Hq.out.1
    have up := U64.of_rng Hp.out
    have uo := U64.of_rng Ho.out
    by_cases hq : 1 ≤ q
    · have hqP : q ≤ 18446744073709551615 := by have := Hq.out.2; unfold Fm.P at this; omega
      have e1 : q.tmod 2 = q % 2 := Int.tmod_eq_emod_of_nonneg hq0
      have e2 : IntKind.u64.wrap (q.tdiv 2) = q / 2 := IntWalk.u64_quo _ _ ⟨hq0, hqP, by omega⟩
      have Hq2 := Lib.hid (show 0 ≤ q / 2 ∧ q / 2 < Fm.P by have := Hq.out; unfold Fm.P at *; omega)
      have H1 := Lib.hid (Fm.add_rng p p)
      have H2 := Lib.hid (Fm.add_rng o p)
      have hdbl : Fm.mul (Fm.add p p) (q / 2) = Fm.mul p (2 * (q / 2)) := by
        unfold Fm.add; rw [Fm.mul_emod_l]; unfold Fm.mul; congr 1; grind
      clear hqP
      by_cases hb : q % 2 = 1
      · have hb' : (q % 2 == 1) = true := by simpa using hb
        have HN := Lib.hid (show Fm.add (Fm.add o p) (Fm.mul (Fm.add p p) (q / 2)) = Fm.mul a b by
          rw [← HH.out, Fm.add_assoc, hdbl]; congr 1
          rw [show Fm.mul p q = Fm.mul p (1 + 2 * (q / 2)) by congr 1; omega]
          show (p + p * (2 * (q / 2)) % Fm.P) % Fm.P = p * (1 + 2 * (q / 2)) % Fm.P
          rw [Int.add_emod_emod, Int.mul_add, Int.mul_one])
        clear hdbl hb
        go_wp2_with fail
        refine (RAdd_any _ _ _ uo up).mono ?_; rintro e w' ⟨rfl, rfl⟩
        go_wp2_with fail
        refine (RAdd_any _ _ _ up up).mono ?_; rintro e w' ⟨rfl, rfl⟩
        go_wp2_with fail
        go_round
        case rel => exact ⟨_, _, _, rfl, rfl, rfl, H1, Hq2, H2, HN⟩
        case measure => simp [intOf]; omega
      · have hb' : (q % 2 == 1) = false := by simpa using hb
        have HN := Lib.hid (show Fm.add o (Fm.mul (Fm.add p p) (q / 2)) = Fm.mul a b by
          rw [← HH.out, hdbl]; congr 2; omega)
        clear hdbl hb
        go_wp2_with fail
        refine (RAdd_any _ _ _ up up).mono ?_; rintro e w' ⟨rfl, rfl⟩
        go_wp2_with fail
        go_round
        case rel => exact ⟨_, _, _, rfl, rfl, rfl, H1, Hq2, Ho, HN⟩
        case measure => simp [intOf]; omega
    · obtain rfl : q = 0 := by omega
      have hfin : o = Fm.mul a b := by
        rw [← HH.out, Fm.mul, Int.mul_zero, Int.zero_emod, Fm.add, Int.add_zero, Fm.mod_small _ Ho.out.1 Ho.out.2]
      have Hf := Lib.hid hfin; clear hfin
      go_wp2_with fail
      go_ret
      exact ⟨ret_int Hf.out, rfl⟩

set_option maxHeartbeats 800000 in
theorem RPow_any (a n : Int) (w : World) (ha : U64 a) (hn : U64 n) :
    Calls Try.prog 22 #[.int .u64 a, .int .u64 n] w fun e w' => e = .returned (.int .u64 (Fm.pow a n.toNat)) ∧ w = w' := by
  have Hn := Lib.hid hn
  clear hn
  go_enter Try.func22, Try.ntmps22
  go_wp2_with fail
  go_loop [0, 1, 5] (fun p q o => ∃ p' q' o' : Int, p = .int .u64 p' ∧ q = .int .u64 q' ∧ o = .int .u64 o' ∧ Hid (U64 p') ∧ Hid (U64 q') ∧ Hid (0 ≤ o' ∧ o' < Fm.P) ∧
      Hid (Fm.mul o' (Fm.pow p' q'.toNat) = Fm.pow a n.toNat)) (fun _ q _ => (intOf q).toNat)
  case atStart =>
    refine ⟨_, _, _, rfl, rfl, rfl, Lib.hid ha, Hn, Lib.hid ⟨by omega, by unfold Fm.P; omega⟩, Lib.hid ?_⟩
    unfold Fm.mul; rw [Int.one_mul]; exact Fm.mod_small _ (Fm.pow_rng _ _).1 (Fm.pow_rng _ _).2
  case round =>
    obtain ⟨p, q, o, rfl, rfl, rfl, Hp, Hq, Ho, HH⟩ := hrel
    have hq0 := Hq.out.1
    have up := Hp.out
    have uo := U64.of_rng Ho.out
    by_cases hq : 1 ≤ q
    · have hqP : q ≤ 18446744073709551615 := by have := Hq.out.2; omega
      have e1 : q.tmod 2 = q % 2 := Int.tmod_eq_emod_of_nonneg hq0
      have e2 : IntKind.u64.wrap (q.tdiv 2) = q / 2 := IntWalk.u64_quo _ _ ⟨hq0, hqP, by omega⟩
      have Hq2 := Lib.hid (show U64 (q / 2) from ⟨by omega, by omega⟩)
      have H1 := Lib.hid (U64.of_rng (Fm.mul_rng p p))
      have H2 := Lib.hid (Fm.mul_rng o p)
      have hlow := Fm.pow_low p q.toNat
      rw [show q.toNat / 2 = (q / 2).toNat by omega] at hlow
      clear hqP
      by_cases hb : q % 2 = 1
      · have hb' : (q % 2 == 1) = true := by simpa using hb
        rw [if_pos (by omega)] at hlow
        have HN := Lib.hid (show Fm.mul (Fm.mul o p) (Fm.pow (Fm.mul p p) (q / 2).toNat) = Fm.pow a n.toNat by
          rw [← HH.out, hlow, Fm.mul_assoc])
        clear hlow hb
        go_wp2_with fail
        refine (RMul_any _ _ _ uo up).mono ?_; rintro e w' ⟨rfl, rfl⟩
        go_wp2_with fail
        refine (RMul_any _ _ _ up up).mono ?_; rintro e w' ⟨rfl, rfl⟩
        go_wp2_with fail
        go_round
        case rel => exact ⟨_, _, _, rfl, rfl, rfl, H1, Hq2, H2, HN⟩
        case measure => simp [intOf]; omega
      · have hb' : (q % 2 == 1) = false := by simpa using hb
        rw [if_neg (by omega)] at hlow
        have HN := Lib.hid (show Fm.mul o (Fm.pow (Fm.mul p p) (q / 2).toNat) = Fm.pow a n.toNat by
          rw [← HH.out, hlow])
        clear hlow hb
        go_wp2_with fail
        refine (RMul_any _ _ _ up up).mono ?_; rintro e w' ⟨rfl, rfl⟩
        go_wp2_with fail
        go_round
        case rel => exact ⟨_, _, _, rfl, rfl, rfl, H1, Hq2, Ho, HN⟩
        case measure => simp [intOf]; omega
    · obtain rfl : q = 0 := by omega
      have hfin : o = Fm.pow a n.toNat := by
        rw [← HH.out]; show o = Fm.mul o (Fm.pow p 0); rw [Fm.pow_zero, Fm.mul_one, Fm.mod_small _ Ho.out.1 Ho.out.2]
      have Hf := Lib.hid hfin; clear hfin
      go_wp2_with fail
      go_ret
      exact ⟨ret_int Hf.out, rfl⟩

set_option maxHeartbeats 400000 in
theorem RInv_zero (a : Int) (w : World) (ha : U64 a) (hz : a % Fm.P = 0) :
    Calls Try.prog 18 #[.int .u64 a] w fun e w' => e = .returned (.tuple #[.int .u64 0, .int .i64 10]) ∧ w = w' := by
  have e1 : a.tmod 2305843009213693951 = 0 := by rw [Int.tmod_eq_emod_of_nonneg ha.1]; exact hz
  clear hz ha
  go_enter Try.func18, Try.ntmps18
  go_wp2_with fail
  go_ret2
  exact ⟨rfl, rfl⟩

set_option maxHeartbeats 400000 in
theorem RInv_some (a : Int) (w : World) (ha : U64 a) (hz : a % Fm.P ≠ 0) :
    Calls Try.prog 18 #[.int .u64 a] w fun e w' => e = .returned (.tuple #[.int .u64 (Fm.inv a), .int .i64 0]) ∧ w = w' := by
  obtain ⟨a1, ha1⟩ : ∃ a1, a.tmod 2305843009213693951 = a1 := ⟨_, rfl⟩
  have hb : (a1 == 0) = false := by
    rw [← ha1, Int.tmod_eq_emod_of_nonneg ha.1]; unfold Fm.P at hz; simpa using hz
  clear hz
  go_enter Try.func18, Try.ntmps18
  go_wp2_with fail
  refine (RPow_any a _ _ ha ⟨by omega, by omega⟩).mono ?_; rintro e w' ⟨rfl, rfl⟩
  go_wp2_with fail
  go_ret2
  exact ⟨rfl, rfl⟩
end Go.Proofs.Ytnichjocllfocaa
