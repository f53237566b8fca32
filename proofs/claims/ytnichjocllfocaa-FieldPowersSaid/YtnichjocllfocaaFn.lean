/-
  Walks over the laws of the field: Sums, Products, Ring, Divides, Powers (written by program: wip/gen_fn.py).
-/
import Derived.Test.YtnichjocllfocaaFl
namespace Go.Proofs.Ytnichjocllfocaa
open Go.RowKit

set_option maxRecDepth 100000 in
set_option maxHeartbeats 2000000 in
theorem FieldSums_any (a b : Int) (w : World) (wa : (Lit.int .u64 a).wf = true) (wb : (Lit.int .u64 b).wf = true) :
    Calls Try.prog 3 #[.int .u64 a, .int .u64 b] w fun e w' => e = .returned (.bool true) ∧ Below w.heap.size w w' := by
  have ua := Lib.hid (U64.of_wf wa)
  have ub := Lib.hid (U64.of_wf wb)
  clear wa wb
  go_enter Try.func3, Try.ntmps3
  go_wp2_with fail
  refine (live_any _).mono ?_; rintro e w1 ⟨rfl, hb1⟩
  go_wp2_with fail
  refine (Add_any _ _ _ ua.out ub.out).mono ?_; rintro e w' ⟨rfl, rfl⟩
  go_wp2_with fail
  refine (RAdd_any _ _ _ ua.out ub.out).mono ?_; rintro e w' ⟨rfl, rfl⟩
  go_wp2_with fail
  refine (Sub_any _ _ _ ua.out ub.out).mono ?_; rintro e w' ⟨rfl, rfl⟩
  go_wp2_with fail
  refine (RSub_any _ _ _ ua.out ub.out).mono ?_; rintro e w' ⟨rfl, rfl⟩
  go_wp2_with fail
  go_ret
  exact ⟨rfl, hb1⟩

set_option maxRecDepth 100000 in
set_option maxHeartbeats 2000000 in
theorem FieldProducts_any (a b : Int) (w : World) (wa : (Lit.int .u64 a).wf = true) (wb : (Lit.int .u64 b).wf = true) :
    Calls Try.prog 4 #[.int .u64 a, .int .u64 b] w fun e w' => e = .returned (.bool true) ∧ Below w.heap.size w w' := by
  have ua := Lib.hid (U64.of_wf wa)
  have ub := Lib.hid (U64.of_wf wb)
  clear wa wb
  by_cases hz : a % Fm.P = 0
  · have HZ := Lib.hid hz
    clear hz
    go_enter Try.func4, Try.ntmps4
    go_wp2_with fail
    refine (live_any _).mono ?_; rintro e w1 ⟨rfl, hb1⟩
    go_wp2_with fail
    refine (Inv_zero a _ ua.out HZ.out).mono ?_; rintro e w' ⟨rfl, rfl⟩
    go_wp2_with fail
    refine (RInv_zero a _ ua.out HZ.out).mono ?_; rintro e w' ⟨rfl, rfl⟩
    go_wp2_with fail
    refine (Mul_any _ _ _ ua.out ub.out).mono ?_; rintro e w' ⟨rfl, rfl⟩
    go_wp2_with fail
    refine (RMul_any _ _ _ ua.out ub.out).mono ?_; rintro e w' ⟨rfl, rfl⟩
    go_wp2_with fail
    refine (Pow_any _ _ _ ua.out ub.out).mono ?_; rintro e w' ⟨rfl, rfl⟩
    go_wp2_with fail
    refine (RPow_any _ _ _ ua.out ub.out).mono ?_; rintro e w' ⟨rfl, rfl⟩
    go_wp2_with fail
    go_ret
    exact ⟨rfl, hb1⟩
  · have HZ := Lib.hid hz
    clear hz
    go_enter Try.func4, Try.ntmps4
    go_wp2_with fail
    refine (live_any _).mono ?_; rintro e w1 ⟨rfl, hb1⟩
    go_wp2_with fail
    refine (Inv_some a _ ua.out HZ.out).mono ?_; rintro e w' ⟨rfl, rfl⟩
    go_wp2_with fail
    refine (RInv_some a _ ua.out HZ.out).mono ?_; rintro e w' ⟨rfl, rfl⟩
    go_wp2_with fail
    refine (Mul_any _ _ _ ua.out ub.out).mono ?_; rintro e w' ⟨rfl, rfl⟩
    go_wp2_with fail
    refine (RMul_any _ _ _ ua.out ub.out).mono ?_; rintro e w' ⟨rfl, rfl⟩
    go_wp2_with fail
    refine (Pow_any _ _ _ ua.out ub.out).mono ?_; rintro e w' ⟨rfl, rfl⟩
    go_wp2_with fail
    refine (RPow_any _ _ _ ua.out ub.out).mono ?_; rintro e w' ⟨rfl, rfl⟩
    go_wp2_with fail
    go_ret
    exact ⟨rfl, hb1⟩

set_option maxRecDepth 100000 in
set_option maxHeartbeats 2000000 in
theorem FieldRing_any (a b c : Int) (w : World) (wa : (Lit.int .u64 a).wf = true) (wb : (Lit.int .u64 b).wf = true) (wc : (Lit.int .u64 c).wf = true) :
    Calls Try.prog 6 #[.int .u64 a, .int .u64 b, .int .u64 c] w fun e w' => e = .returned (.bool true) ∧ Below w.heap.size w w' := by
  have ua := Lib.hid (U64.of_wf wa)
  have ub := Lib.hid (U64.of_wf wb)
  have uc := Lib.hid (U64.of_wf wc)
  clear wa wb wc
  obtain ⟨x, hx⟩ : ∃ x, a.tmod 2305843009213693951 = x := ⟨_, rfl⟩
  have hx' : a % Fm.P = x := by rw [← hx]; exact (Int.tmod_eq_emod_of_nonneg ua.out.1).symm
  have h1 := Lib.hid (show Fm.sub (Fm.add a b) b = x by
    rw [← hx']; show Fm.sub ((a + b) % Fm.P) b = _; rw [Fm.sub_emod_l]; unfold Fm.sub; rw [Int.add_sub_cancel])
  have h2 := Lib.hid (show Fm.add a 0 = x by rw [← hx', Fm.add, Int.add_zero])
  have h3 := Lib.hid (show Fm.mul a 1 = x by rw [← hx', Fm.mul_one])
  clear hx'
  go_enter Try.func6, Try.ntmps6
  go_wp2_with fail
  refine (live_any _).mono ?_; rintro e w1 ⟨rfl, hb1⟩
  go_wp2_with fail
  refine (Add_any _ _ _ ua.out ub.out).mono ?_; rintro e w' ⟨rfl, rfl⟩
  go_wp2_with fail
  refine (Add_any _ _ _ ub.out ua.out).mono ?_; rintro e w' ⟨rfl, rfl⟩
  rw [Fm.add_comm b a]
  go_wp2_with fail
  refine (Add_any _ _ _ ua.out ub.out).mono ?_; rintro e w' ⟨rfl, rfl⟩
  go_wp2_with fail
  refine (Add_any (Fm.add a b) c _ (U64.of_rng (Fm.add_rng _ _)) uc.out).mono ?_; rintro e w' ⟨rfl, rfl⟩
  go_wp2_with fail
  refine (Add_any _ _ _ ub.out uc.out).mono ?_; rintro e w' ⟨rfl, rfl⟩
  go_wp2_with fail
  refine (Add_any a (Fm.add b c) _ ua.out (U64.of_rng (Fm.add_rng _ _))).mono ?_; rintro e w' ⟨rfl, rfl⟩
  rw [← Fm.add_assoc]
  go_wp2_with fail
  refine (Mul_any _ _ _ ua.out ub.out).mono ?_; rintro e w' ⟨rfl, rfl⟩
  go_wp2_with fail
  refine (Mul_any _ _ _ ub.out ua.out).mono ?_; rintro e w' ⟨rfl, rfl⟩
  rw [Fm.mul_comm b a]
  go_wp2_with fail
  refine (Mul_any _ _ _ ua.out ub.out).mono ?_; rintro e w' ⟨rfl, rfl⟩
  go_wp2_with fail
  refine (Mul_any (Fm.mul a b) c _ (U64.of_rng (Fm.mul_rng _ _)) uc.out).mono ?_; rintro e w' ⟨rfl, rfl⟩
  go_wp2_with fail
  refine (Mul_any _ _ _ ub.out uc.out).mono ?_; rintro e w' ⟨rfl, rfl⟩
  go_wp2_with fail
  refine (Mul_any a (Fm.mul b c) _ ua.out (U64.of_rng (Fm.mul_rng _ _))).mono ?_; rintro e w' ⟨rfl, rfl⟩
  rw [← Fm.mul_assoc]
  go_wp2_with fail
  refine (Add_any _ _ _ ub.out uc.out).mono ?_; rintro e w' ⟨rfl, rfl⟩
  go_wp2_with fail
  refine (Mul_any a (Fm.add b c) _ ua.out (U64.of_rng (Fm.add_rng _ _))).mono ?_; rintro e w' ⟨rfl, rfl⟩
  rw [Fm.mul_add]
  go_wp2_with fail
  refine (Mul_any _ _ _ ua.out ub.out).mono ?_; rintro e w' ⟨rfl, rfl⟩
  go_wp2_with fail
  refine (Mul_any _ _ _ ua.out uc.out).mono ?_; rintro e w' ⟨rfl, rfl⟩
  go_wp2_with fail
  refine (Add_any (Fm.mul a b) (Fm.mul a c) _ (U64.of_rng (Fm.mul_rng _ _)) (U64.of_rng (Fm.mul_rng _ _))).mono ?_; rintro e w' ⟨rfl, rfl⟩
  go_wp2_with fail
  refine (Sub_any _ _ _ ub.out uc.out).mono ?_; rintro e w' ⟨rfl, rfl⟩
  go_wp2_with fail
  refine (Mul_any a (Fm.sub b c) _ ua.out (U64.of_rng (Fm.sub_rng _ _))).mono ?_; rintro e w' ⟨rfl, rfl⟩
  rw [Fm.mul_sub]
  go_wp2_with fail
  refine (Mul_any _ _ _ ua.out ub.out).mono ?_; rintro e w' ⟨rfl, rfl⟩
  go_wp2_with fail
  refine (Mul_any _ _ _ ua.out uc.out).mono ?_; rintro e w' ⟨rfl, rfl⟩
  go_wp2_with fail
  refine (Sub_any (Fm.mul a b) (Fm.mul a c) _ (U64.of_rng (Fm.mul_rng _ _)) (U64.of_rng (Fm.mul_rng _ _))).mono ?_; rintro e w' ⟨rfl, rfl⟩
  go_wp2_with fail
  refine (Add_any _ _ _ ua.out ub.out).mono ?_; rintro e w' ⟨rfl, rfl⟩
  go_wp2_with fail
  refine (Sub_any (Fm.add a b) b _ (U64.of_rng (Fm.add_rng _ _)) ub.out).mono ?_; rintro e w' ⟨rfl, rfl⟩
  rw [h1.out]
  go_wp2_with fail
  refine (Add_any a 0 _ ua.out ⟨by omega, by omega⟩).mono ?_; rintro e w' ⟨rfl, rfl⟩
  rw [h2.out]
  go_wp2_with fail
  refine (Mul_any a 1 _ ua.out ⟨by omega, by omega⟩).mono ?_; rintro e w' ⟨rfl, rfl⟩
  rw [h3.out]
  go_wp2_with fail
  refine (Mul_any a 0 _ ua.out ⟨by omega, by omega⟩).mono ?_; rintro e w' ⟨rfl, rfl⟩
  rw [Fm.mul_zero]
  go_wp2_with fail
  go_ret
  exact ⟨rfl, hb1⟩

set_option maxRecDepth 100000 in
set_option maxHeartbeats 2000000 in
theorem FieldDivides_any (a b : Int) (w : World) (wa : (Lit.int .u64 a).wf = true) (wb : (Lit.int .u64 b).wf = true) :
    Calls Try.prog 7 #[.int .u64 a, .int .u64 b] w fun e w' => e = .returned (.bool true) ∧ Below w.heap.size w w' := by
  have ua := Lib.hid (U64.of_wf wa)
  have ub := Lib.hid (U64.of_wf wb)
  clear wa wb
  obtain ⟨x, hx⟩ : ∃ x, a.tmod 2305843009213693951 = x := ⟨_, rfl⟩
  have hx' : a % Fm.P = x := by rw [← hx]; exact (Int.tmod_eq_emod_of_nonneg ua.out.1).symm
  obtain ⟨y, hy⟩ : ∃ y, b.tmod 2305843009213693951 = y := ⟨_, rfl⟩
  have hy' : b % Fm.P = y := by rw [← hy]; exact (Int.tmod_eq_emod_of_nonneg ub.out.1).symm
  have hmz := Fm.mul_eq_zero a b
  rw [hx', hy'] at hmz
  have HX := Lib.hid hx'
  have HY := Lib.hid hy'
  clear hx' hy'
  by_cases zx : x = 0
  · have bx : (x == 0) = true := by simpa using zx
    have bx' : (x != 0) = false := by simpa using zx
    by_cases zy : y = 0
    · have by1 : (y == 0) = true := by simpa using zy
      have hm := Lib.hid (hmz.2 (.inl zx))
      have ZX := Lib.hid (show a % Fm.P = 0 by rw [HX.out]; exact zx)
      have ZY := Lib.hid (show b % Fm.P = 0 by rw [HY.out]; exact zy)
      clear zx zy hmz
      go_enter Try.func7, Try.ntmps7
      go_wp2_with fail
      refine (live_any _).mono ?_; rintro e w1 ⟨rfl, hb1⟩
      go_wp2_with fail
      refine (Inv_zero a _ ua.out ZX.out).mono ?_; rintro e w' ⟨rfl, rfl⟩
      go_wp2_with fail
      refine (Inv_zero b _ ub.out ZY.out).mono ?_; rintro e w' ⟨rfl, rfl⟩
      go_wp2_with fail
      refine (Mul_any _ _ _ ua.out ub.out).mono ?_; rintro e w' ⟨rfl, rfl⟩
      rw [hm.out]
      go_wp2_with fail
      go_ret
      exact ⟨rfl, hb1⟩
    · have by1 : (y == 0) = false := by simpa using zy
      have hm := Lib.hid (hmz.2 (.inl zx))
      have ZX := Lib.hid (show a % Fm.P = 0 by rw [HX.out]; exact zx)
      have ZY := Lib.hid (show b % Fm.P ≠ 0 by rw [HY.out]; exact zy)
      clear zx zy hmz
      go_enter Try.func7, Try.ntmps7
      go_wp2_with fail
      refine (live_any _).mono ?_; rintro e w1 ⟨rfl, hb1⟩
      go_wp2_with fail
      refine (Inv_zero a _ ua.out ZX.out).mono ?_; rintro e w' ⟨rfl, rfl⟩
      go_wp2_with fail
      refine (Inv_some b _ ub.out ZY.out).mono ?_; rintro e w' ⟨rfl, rfl⟩
      go_wp2_with fail
      refine (Mul_any _ _ _ ua.out ub.out).mono ?_; rintro e w' ⟨rfl, rfl⟩
      rw [hm.out]
      go_wp2_with fail
      go_ret
      exact ⟨rfl, hb1⟩
  · have bx : (x == 0) = false := by simpa using zx
    have bx' : (x != 0) = true := by simpa using zx
    by_cases zy : y = 0
    · have by1 : (y == 0) = true := by simpa using zy
      have hm := Lib.hid (hmz.2 (.inr zy))
      have ZX := Lib.hid (show a % Fm.P ≠ 0 by rw [HX.out]; exact zx)
      have ZY := Lib.hid (show b % Fm.P = 0 by rw [HY.out]; exact zy)
      clear zx zy hmz
      have e10 : ((0 : Int) == 10) = false := by decide
      go_enter Try.func7, Try.ntmps7
      go_wp2_with fail
      refine (live_any _).mono ?_; rintro e w1 ⟨rfl, hb1⟩
      go_wp2_with fail
      refine (Inv_some a _ ua.out ZX.out).mono ?_; rintro e w' ⟨rfl, rfl⟩
      go_wp2_with fail
      refine (Inv_zero b _ ub.out ZY.out).mono ?_; rintro e w' ⟨rfl, rfl⟩
      go_wp2_with fail
      refine (Mul_any _ _ _ ua.out ub.out).mono ?_; rintro e w' ⟨rfl, rfl⟩
      rw [hm.out]
      go_wp2_with fail
      go_ret
      exact ⟨rfl, hb1⟩
    · have by1 : (y == 0) = false := by simpa using zy
      have hm : Fm.mul a b ≠ 0 := fun h => (hmz.1 h).elim zx zy
      have hmm := Lib.hid hm
      have bm : (Fm.mul a b == 0) = false := by simpa using hm
      have ZX := Lib.hid (show a % Fm.P ≠ 0 by rw [HX.out]; exact zx)
      have ZY := Lib.hid (show b % Fm.P ≠ 0 by rw [HY.out]; exact zy)
      clear zx zy hmz hm
      go_enter Try.func7, Try.ntmps7
      go_wp2_with fail
      refine (live_any _).mono ?_; rintro e w1 ⟨rfl, hb1⟩
      go_wp2_with fail
      refine (Inv_some a _ ua.out ZX.out).mono ?_; rintro e w' ⟨rfl, rfl⟩
      go_wp2_with fail
      refine (Inv_some b _ ub.out ZY.out).mono ?_; rintro e w' ⟨rfl, rfl⟩
      go_wp2_with fail
      refine (Mul_any _ _ _ ua.out ub.out).mono ?_; rintro e w' ⟨rfl, rfl⟩
      have i1 := Lib.hid (Fm.mul_inv a ZX.out)
      have i2 := Lib.hid (show Fm.inv (Fm.inv a) = x by
        rw [← HX.out]; refine (Fm.inv_unique _ _ (Fm.rng a).1 (Fm.rng a).2 ?_).symm; rw [Fm.mul_emod_l]; exact i1.out)
      have i3 := Lib.hid (show Fm.inv (Fm.mul a b) = Fm.mul (Fm.inv a) (Fm.inv b) by
        refine (Fm.inv_unique _ _ (Fm.mul_rng _ _).1 (Fm.mul_rng _ _).2 ?_).symm
        rw [Fm.mul_assoc, show Fm.mul (Fm.inv b) (Fm.mul a b) = Fm.mul a (Fm.mul b (Fm.inv b)) by rw [Fm.mul_comm, Fm.mul_assoc], Fm.mul_inv b ZY.out, ← Fm.mul_assoc, Fm.mul_comm (Fm.inv a), i1.out]; rfl)
      have n1 := Lib.hid (show Fm.mul a b % Fm.P ≠ 0 by rw [Fm.mod_small _ (Fm.mul_rng _ _).1 (Fm.mul_rng _ _).2]; exact hmm.out)
      have n2 := Lib.hid (show Fm.inv a % Fm.P ≠ 0 by
        intro h0; have := i1.out; rw [← Fm.mul_emod_r, h0, Fm.mul_zero] at this; exact absurd this (by decide))
      go_wp2_with fail
      refine (Mul_any _ _ _ ua.out ub.out).mono ?_; rintro e w' ⟨rfl, rfl⟩
      go_wp2_with fail
      refine (Inv_some (Fm.mul a b) _ (U64.of_rng (Fm.mul_rng _ _)) n1.out).mono ?_; rintro e w' ⟨rfl, rfl⟩
      rw [i3.out]
      go_wp2_with fail
      refine (Inv_some (Fm.inv a) _ (U64.of_rng (Fm.inv_rng _)) n2.out).mono ?_; rintro e w' ⟨rfl, rfl⟩
      rw [i2.out]
      go_wp2_with fail
      refine (Mul_any a (Fm.inv a) _ ua.out (U64.of_rng (Fm.inv_rng _))).mono ?_; rintro e w' ⟨rfl, rfl⟩
      rw [i1.out]
      go_wp2_with fail
      refine (Mul_any (Fm.inv a) (Fm.inv b) _ (U64.of_rng (Fm.inv_rng _)) (U64.of_rng (Fm.inv_rng _))).mono ?_; rintro e w' ⟨rfl, rfl⟩
      go_wp2_with fail
      go_ret
      exact ⟨rfl, hb1⟩

set_option maxRecDepth 100000 in
set_option maxHeartbeats 2000000 in
theorem FieldPowers_any (a b n m : Int) (w : World) (wa : (Lit.int .u64 a).wf = true) (wb : (Lit.int .u64 b).wf = true) (wn : (Lit.int .u64 n).wf = true) (wm : (Lit.int .u64 m).wf = true) :
    Calls Try.prog 8 #[.int .u64 a, .int .u64 b, .int .u64 n, .int .u64 m] w fun e w' => e = .returned (.bool true) ∧ Below w.heap.size w w' := by
  have ua := Lib.hid (U64.of_wf wa)
  have ub := Lib.hid (U64.of_wf wb)
  have un := Lib.hid (U64.of_wf wn)
  have um := Lib.hid (U64.of_wf wm)
  clear wa wb wn wm
  obtain ⟨x, hx⟩ : ∃ x, a.tmod 2305843009213693951 = x := ⟨_, rfl⟩
  have hx' : a % Fm.P = x := by rw [← hx]; exact (Int.tmod_eq_emod_of_nonneg ua.out.1).symm
  have HX := Lib.hid hx'
  have hn := un.out
  have hm := um.out
  by_cases hov : 18446744073709551616 ≤ n + m
  · obtain ⟨s, hs⟩ : ∃ s, IntKind.u64.wrap (n + m) = s := ⟨_, rfl⟩
    have hlt : decide (s < n) = true := by
      rw [← hs, IntKind.wrap_u64]; unfold U64 at hn hm; simp; omega
    clear hx hx' hn hm hov
    go_enter Try.func8, Try.ntmps8
    go_wp2_with fail
    refine (live_any _).mono ?_; rintro e w1 ⟨rfl, hb1⟩
    go_wp2_with fail
    go_ret
    exact ⟨rfl, hb1⟩
  · have e1 : IntKind.u64.wrap (n + m) = n + m := IntWalk.u64_in _ (by unfold U64 at hn hm; omega)
    have hlt : decide (n + m < n) = false := by unfold U64 at hm; simp; omega
    have us := Lib.hid (show U64 (n + m) by unfold U64 at *; omega)
    have p1 := Lib.hid (show Fm.mul (Fm.pow a n.toNat) (Fm.pow a m.toNat) = Fm.pow a (n + m).toNat by
      rw [Fm.pow_add]; congr 1; unfold U64 at hn hm; omega)
    have p2 := Lib.hid (Fm.mul_pow a b n.toNat)
    have p3 := Lib.hid (show Fm.pow a (0 : Int).toNat = 1 from Fm.pow_zero a)
    have p4 := Lib.hid (show Fm.pow a (1 : Int).toNat = x by rw [← HX.out]; exact Fm.pow_one a)
    clear hn hm hov hx'
    by_cases zx : x = 0
    · have bx : (x != 0) = false := by simpa using zx
      have ZX := Lib.hid (show a % Fm.P = 0 by rw [HX.out]; exact zx)
      clear zx
      go_enter Try.func8, Try.ntmps8
      go_wp2_with fail
      refine (live_any _).mono ?_; rintro e w1 ⟨rfl, hb1⟩
      go_wp2_with fail
      refine (Inv_zero a _ ua.out ZX.out).mono ?_; rintro e w' ⟨rfl, rfl⟩
      go_wp2_with fail
      refine (Pow_any _ _ _ ua.out un.out).mono ?_; rintro e w' ⟨rfl, rfl⟩
      go_wp2_with fail
      refine (Pow_any _ _ _ ua.out um.out).mono ?_; rintro e w' ⟨rfl, rfl⟩
      go_wp2_with fail
      refine (Mul_any _ _ _ (U64.of_rng (Fm.pow_rng _ _)) (U64.of_rng (Fm.pow_rng _ _))).mono ?_; rintro e w' ⟨rfl, rfl⟩
      rw [p1.out]
      go_wp2_with fail
      refine (Pow_any _ _ _ ua.out us.out).mono ?_; rintro e w' ⟨rfl, rfl⟩
      go_wp2_with fail
      refine (Mul_any _ _ _ ua.out ub.out).mono ?_; rintro e w' ⟨rfl, rfl⟩
      go_wp2_with fail
      refine (Pow_any (Fm.mul a b) _ _ (U64.of_rng (Fm.mul_rng _ _)) un.out).mono ?_; rintro e w' ⟨rfl, rfl⟩
      rw [p2.out]
      go_wp2_with fail
      refine (Pow_any _ _ _ ua.out un.out).mono ?_; rintro e w' ⟨rfl, rfl⟩
      go_wp2_with fail
      refine (Pow_any _ _ _ ub.out un.out).mono ?_; rintro e w' ⟨rfl, rfl⟩
      go_wp2_with fail
      refine (Mul_any _ _ _ (U64.of_rng (Fm.pow_rng _ _)) (U64.of_rng (Fm.pow_rng _ _))).mono ?_; rintro e w' ⟨rfl, rfl⟩
      go_wp2_with fail
      refine (Pow_any a 0 _ ua.out ⟨by omega, by omega⟩).mono ?_; rintro e w' ⟨rfl, rfl⟩
      rw [p3.out]
      go_wp2_with fail
      refine (Pow_any a 1 _ ua.out ⟨by omega, by omega⟩).mono ?_; rintro e w' ⟨rfl, rfl⟩
      rw [p4.out]
      go_wp2_with fail
      go_ret
      exact ⟨rfl, hb1⟩
    · have bx : (x != 0) = true := by simpa using zx
      have ZX := Lib.hid (show a % Fm.P ≠ 0 by rw [HX.out]; exact zx)
      clear zx
      have q1 := Lib.hid (show Fm.pow a (2305843009213693950 : Int).toNat = 1 from Fm.fermat_int a ZX.out)
      have q2 := Lib.hid (show Fm.pow a (2305843009213693949 : Int).toNat = Fm.inv a from rfl)
      go_enter Try.func8, Try.ntmps8
      go_wp2_with fail
      refine (live_any _).mono ?_; rintro e w1 ⟨rfl, hb1⟩
      go_wp2_with fail
      refine (Inv_some a _ ua.out ZX.out).mono ?_; rintro e w' ⟨rfl, rfl⟩
      go_wp2_with fail
      refine (Pow_any a _ _ ua.out ⟨by omega, by omega⟩).mono ?_; rintro e w' ⟨rfl, rfl⟩
      rw [q1.out]
      go_wp2_with fail
      refine (Pow_any a _ _ ua.out ⟨by omega, by omega⟩).mono ?_; rintro e w' ⟨rfl, rfl⟩
      rw [q2.out]
      go_wp2_with fail
      refine (Pow_any _ _ _ ua.out un.out).mono ?_; rintro e w' ⟨rfl, rfl⟩
      go_wp2_with fail
      refine (Pow_any _ _ _ ua.out um.out).mono ?_; rintro e w' ⟨rfl, rfl⟩
      go_wp2_with fail
      refine (Mul_any _ _ _ (U64.of_rng (Fm.pow_rng _ _)) (U64.of_rng (Fm.pow_rng _ _))).mono ?_; rintro e w' ⟨rfl, rfl⟩
      rw [p1.out]
      go_wp2_with fail
      refine (Pow_any _ _ _ ua.out us.out).mono ?_; rintro e w' ⟨rfl, rfl⟩
      go_wp2_with fail
      refine (Mul_any _ _ _ ua.out ub.out).mono ?_; rintro e w' ⟨rfl, rfl⟩
      go_wp2_with fail
      refine (Pow_any (Fm.mul a b) _ _ (U64.of_rng (Fm.mul_rng _ _)) un.out).mono ?_; rintro e w' ⟨rfl, rfl⟩
      rw [p2.out]
      go_wp2_with fail
      refine (Pow_any _ _ _ ua.out un.out).mono ?_; rintro e w' ⟨rfl, rfl⟩
      go_wp2_with fail
      refine (Pow_any _ _ _ ub.out un.out).mono ?_; rintro e w' ⟨rfl, rfl⟩
      go_wp2_with fail
      refine (Mul_any _ _ _ (U64.of_rng (Fm.pow_rng _ _)) (U64.of_rng (Fm.pow_rng _ _))).mono ?_; rintro e w' ⟨rfl, rfl⟩
      go_wp2_with fail
      refine (Pow_any a 0 _ ua.out ⟨by omega, by omega⟩).mono ?_; rintro e w' ⟨rfl, rfl⟩
      rw [p3.out]
      go_wp2_with fail
      refine (Pow_any a 1 _ ua.out ⟨by omega, by omega⟩).mono ?_; rintro e w' ⟨rfl, rfl⟩
      rw [p4.out]
      go_wp2_with fail
      go_ret
      exact ⟨rfl, hb1⟩
end Go.Proofs.Ytnichjocllfocaa
