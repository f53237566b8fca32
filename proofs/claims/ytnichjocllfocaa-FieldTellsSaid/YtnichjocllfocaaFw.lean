/-
  Walks over package field: what each function computes.
-/
import Derived.Test.YtnichjocllfocaaRows
import Derived.Test.YtnichjocllfocaaFp
import Derived.Test.YtnichjocllfocaaFb
import Derived.Test.YtnichjocllfocaaSh1
import Derived.WalkKit
import Derived.WalkSpells
import Derived.WalkLawsBesides
import Derived.Lib.Hide
namespace Go.Proofs.Ytnichjocllfocaa
open Go.RowKit

theorem ret_int {k : IntKind} {a b : Int} (h : a = b) : Ending.returned (.int k a) = .returned (.int k b) := by rw [h]

set_option maxHeartbeats 400000 in
theorem fold_any (hi lo : Int) (w : World) (h0 : 0 ≤ hi) (h1 : hi < 288230376151711744) (l0 : 0 ≤ lo) (l1 : lo < 18446744073709551616) :
    Calls Try.prog 29 #[.int .u64 hi, .int .u64 lo] w fun e w' => e = .returned (.int .u64 ((hi * 18446744073709551616 + lo) % Fm.P)) ∧ w = w' := by
  obtain ⟨n, m, e1, e2, ⟨e3, e4⟩ | ⟨e3, e4⟩⟩ := Fb.fold_is hi lo h0 h1 l0 l1
  · clear h0 h1 l0 l1
    go_enter Try.func29, Try.ntmps29
    go_wp2
    go_ret
    exact ⟨rfl, rfl⟩
  · have E4 := Lib.hid e4
    clear h0 h1 l0 l1 e4
    go_enter Try.func29, Try.ntmps29
    go_wp2
    go_ret
    exact ⟨ret_int E4.out, rfl⟩

/-- A number that 64 bits hold. -/
def U64 (x : Int) : Prop := 0 ≤ x ∧ x < 18446744073709551616
theorem U64.of_rng {x : Int} (h : 0 ≤ x ∧ x < Fm.P) : U64 x := by unfold Fm.P at h; exact ⟨h.1, by omega⟩

set_option maxHeartbeats 400000 in
theorem one_any (a : Int) (w : World) (h : U64 a) :
    Calls Try.prog 28 #[.int .u64 a] w fun e w' => e = .returned (.int .u64 (a % Fm.P)) ∧ w = w' := by
  go_enter Try.func28, Try.ntmps28
  go_wp2_with (go_at_call 29; refine (fold_any _ _ _ (by omega) (by omega) h.1 h.2).mono ?_; rintro e w' ⟨rfl, rfl⟩)
  go_ret
  exact ⟨ret_int (by simp), rfl⟩

set_option maxHeartbeats 400000 in
theorem Add_any (a b : Int) (w : World) (ha : U64 a) (hb : U64 b) :
    Calls Try.prog 13 #[.int .u64 a, .int .u64 b] w fun e w' => e = .returned (.int .u64 (Fm.add a b)) ∧ w = w' := by
  have ra := Fm.rng a
  have rb := Fm.rng b
  obtain ⟨x, hx⟩ : ∃ x, a % Fm.P = x := ⟨_, rfl⟩
  obtain ⟨y, hy⟩ : ∃ y, b % Fm.P = y := ⟨_, rfl⟩
  rw [hx] at ra; rw [hy] at rb
  have e1 : IntKind.u64.wrap (x + y) = x + y := IntWalk.u64_in _ (by have := ra; have := rb; unfold Fm.P at *; omega)
  have hxy : U64 (x + y) := by have := ra; have := rb; unfold Fm.P at *; exact ⟨by omega, by omega⟩
  have hfin : (x + y) % Fm.P = Fm.add a b := by rw [← hx, ← hy, Fm.add, Int.emod_add_emod, Int.add_emod_emod]
  have Hf := Lib.hid hfin
  clear ra rb hfin
  go_enter Try.func13, Try.ntmps13
  go_wp2_with fail
  refine (one_any a _ ha).mono ?_; rintro e w' ⟨rfl, rfl⟩
  go_wp2_with fail
  refine (one_any b _ hb).mono ?_; rintro e w' ⟨rfl, rfl⟩
  go_wp2_with fail
  refine (one_any (x + y) _ hxy).mono ?_; rintro e w' ⟨rfl, rfl⟩
  go_wp2_with fail
  go_ret
  exact ⟨ret_int Hf.out, rfl⟩

set_option maxHeartbeats 400000 in
theorem Sub_any (a b : Int) (w : World) (ha : U64 a) (hb : U64 b) :
    Calls Try.prog 15 #[.int .u64 a, .int .u64 b] w fun e w' => e = .returned (.int .u64 (Fm.sub a b)) ∧ w = w' := by
  have ra := Fm.rng a
  have rb := Fm.rng b
  obtain ⟨x, hx⟩ : ∃ x, a % Fm.P = x := ⟨_, rfl⟩
  obtain ⟨y, hy⟩ : ∃ y, b % Fm.P = y := ⟨_, rfl⟩
  rw [hx] at ra; rw [hy] at rb
  obtain ⟨s, hs⟩ : ∃ s, s = x + Fm.P := ⟨_, rfl⟩
  obtain ⟨t, ht⟩ : ∃ t, t = s - y := ⟨_, rfl⟩
  have e1 : IntKind.u64.wrap (x + 2305843009213693951) = s := by rw [hs]; exact IntWalk.u64_in _ (by have := ra; unfold Fm.P at *; omega)
  have e2 : IntKind.u64.wrap (s - y) = t := by rw [ht, hs]; exact IntWalk.u64_in _ (by have := ra; have := rb; unfold Fm.P at *; omega)
  have hxy : U64 t := by have := ra; have := rb; rw [ht, hs]; unfold Fm.P at *; exact ⟨by omega, by omega⟩
  have hfin : t % Fm.P = Fm.sub a b := by
    rw [ht, hs, ← hx, ← hy, Fm.sub, show a % Fm.P + Fm.P - b % Fm.P = a % Fm.P - b % Fm.P + Fm.P from by omega, Int.add_emod_right, Int.emod_sub_emod, Int.sub_emod_emod]
  have Hf := Lib.hid hfin
  clear ra rb hfin hs ht
  go_enter Try.func15, Try.ntmps15
  go_wp2_with fail
  refine (one_any a _ ha).mono ?_; rintro e w' ⟨rfl, rfl⟩
  go_wp2_with fail
  refine (one_any b _ hb).mono ?_; rintro e w' ⟨rfl, rfl⟩
  go_wp2_with fail
  refine (one_any t _ hxy).mono ?_; rintro e w' ⟨rfl, rfl⟩
  go_wp2_with fail
  go_ret
  exact ⟨ret_int Hf.out, rfl⟩

theorem Mul64_any (a b : Int) (w : World) (ha : U64 a) (hb : U64 b) :
    Calls Try.prog 30 #[.int .u64 a, .int .u64 b] w fun e w' => e = .returned (.tuple #[.int .u64 (a * b / 18446744073709551616), .int .u64 (a * b % 18446744073709551616)]) ∧ w = w' := by
  obtain ⟨n, rfl⟩ := Int.eq_ofNat_of_zero_le ha.1
  obtain ⟨m, rfl⟩ := Int.eq_ofNat_of_zero_le hb.1
  refine (Sh.bits_Mul64 n m (by have := ha.2; omega) (by have := hb.2; omega) w).mono fun e w' ⟨h1, h2⟩ => ⟨?_, h2.symm⟩
  rw [h1]; rfl

set_option maxHeartbeats 400000 in
theorem Mul_any (a b : Int) (w : World) (ha : U64 a) (hb : U64 b) :
    Calls Try.prog 19 #[.int .u64 a, .int .u64 b] w fun e w' => e = .returned (.int .u64 (Fm.mul a b)) ∧ w = w' := by
  have ra := Fm.rng a
  have rb := Fm.rng b
  obtain ⟨x, hx⟩ : ∃ x, a % Fm.P = x := ⟨_, rfl⟩
  obtain ⟨y, hy⟩ : ∃ y, b % Fm.P = y := ⟨_, rfl⟩
  rw [hx] at ra; rw [hy] at rb
  have ux : U64 x := U64.of_rng ra
  have uy : U64 y := U64.of_rng rb
  have hlt : x * y ≤ 2305843009213693950 * 2305843009213693950 := by
    have h1 : x ≤ 2305843009213693950 := by have := ra.2; unfold Fm.P at this; omega
    have h2 : y ≤ 2305843009213693950 := by have := rb.2; unfold Fm.P at this; omega
    exact Int.mul_le_mul h1 h2 rb.1 (by omega)
  have hge : 0 ≤ x * y := Int.mul_nonneg ra.1 rb.1
  obtain ⟨hi, hhi⟩ : ∃ hi, x * y / 18446744073709551616 = hi := ⟨_, rfl⟩
  obtain ⟨lo, hlo⟩ : ∃ lo, x * y % 18446744073709551616 = lo := ⟨_, rfl⟩
  have b1 : 0 ≤ hi := by omega
  have b2 : hi < 288230376151711744 := by omega
  have b3 : 0 ≤ lo := by omega
  have b4 : lo < 18446744073709551616 := by omega
  have hfin : (hi * 18446744073709551616 + lo) % Fm.P = Fm.mul a b := by
    rw [show hi * 18446744073709551616 + lo = x * y from by omega, ← hx, ← hy, Fm.mul, ← Int.mul_emod]
  have Hf := Lib.hid hfin
  have Hlo := Lib.hid hlo
  have Hhi := Lib.hid hhi
  have B2 := Lib.hid b2
  have B4 := Lib.hid b4
  clear ra rb hfin hlt hge hlo hhi b2 b4
  go_enter Try.func19, Try.ntmps19
  go_wp2_with fail
  refine (one_any a _ ha).mono ?_; rintro e w' ⟨rfl, rfl⟩
  go_wp2_with fail
  refine (one_any b _ hb).mono ?_; rintro e w' ⟨rfl, rfl⟩
  go_wp2_with fail
  refine (Mul64_any x y _ ux uy).mono ?_; rintro e w' ⟨rfl, rfl⟩
  rw [Hhi.out, Hlo.out]
  go_wp2_with fail
  refine (fold_any hi lo _ b1 B2.out b3 B4.out).mono ?_; rintro e w' ⟨rfl, rfl⟩
  go_wp2_with fail
  go_ret
  exact ⟨ret_int Hf.out, rfl⟩

theorem bitLen_fact (x : Nat) (h : x < 2 ^ 64) : Lib.bitLen x ≤ 64 ∧ x / 2 ^ Lib.bitLen x = 0 := by
  have key : ∀ f x : Nat, x < 2 ^ f → f ≤ 64 → Lib.bitLen x ≤ f ∧ x / 2 ^ Lib.bitLen x = 0 := by
    intro f
    induction f with
    | zero => intro x hx _; have : x = 0 := by simp at hx; exact hx
              subst this; exact ⟨by decide, by decide⟩
    | succ f ih =>
      intro x hx hf
      by_cases h0 : x = 0
      · subst h0; exact ⟨Nat.le_trans (by decide) (Nat.zero_le _), by decide⟩
      · have hx64 : x < 2 ^ 64 := Nat.lt_of_lt_of_le hx (Nat.pow_le_pow_right (by omega) hf)
        rw [Lib.bitLen_half x h0 hx64]
        obtain ⟨h1, h2⟩ := ih (x / 2) (by rw [Nat.pow_succ] at hx; omega) (by omega)
        refine ⟨by omega, ?_⟩
        rw [Nat.pow_add, ← Nat.div_div_eq_div_mul]; exact h2
  exact key 64 x h (by omega)

set_option maxHeartbeats 400000 in
theorem Pow_any (a n : Int) (w : World) (ha : U64 a) (hn : U64 n) :
    Calls Try.prog 21 #[.int .u64 a, .int .u64 n] w fun e w' => e = .returned (.int .u64 (Fm.pow a n.toNat)) ∧ w = w' := by
  obtain ⟨hl, hl0⟩ := bitLen_fact n.toNat (by have := hn.1; have := hn.2; omega)
  obtain ⟨k0, hk0⟩ : ∃ k0, Lib.bitLen n.toNat = k0 := ⟨_, rfl⟩
  rw [hk0] at hl hl0
  go_enter Try.func21, Try.ntmps21
  go_wp2_with fail
  refine (Sh.bits_Len64 n _ hn.1 (by have := hn.2; omega)).mono ?_; rintro e w' ⟨rfl, hw⟩
  subst hw
  rw [hk0]
  go_wp2_with fail
  go_loop [5, 6] (fun o i => ∃ k : Nat, k ≤ 64 ∧ i = .int .i64 (k - 1) ∧ o = .int .u64 (Fm.pow a (n.toNat / 2 ^ k))) (fun _ i => (intOf i + 1).toNat)
  case atStart => exact ⟨k0, hl, rfl, by rw [hl0, Fm.pow_zero]⟩
  case round =>
    obtain ⟨k, hk, rfl, rfl⟩ := hrel
    by_cases hlt : 1 ≤ k
    · have hr := Fm.pow_rng a (n.toNat / 2 ^ k)
      have u1 := U64.of_rng hr
      have hr2 := Fm.mul_rng (Fm.pow a (n.toNat / 2 ^ k)) (Fm.pow a (n.toNat / 2 ^ k))
      have u2 := U64.of_rng hr2
      clear hr hr2
      go_wp2_with fail
      refine (Mul_any _ _ _ u1 u1).mono ?_; rintro e w' ⟨rfl, rfl⟩
      have hb := Fb.bit_test n (k - 1) hn.1 hn.2
      have hp := Fm.pow_bits a n.toNat (k - 1)
      rw [show k - 1 + 1 = k from by omega] at hp
      by_cases hbit : n.toNat / 2 ^ (k - 1) % 2 = 1
      · rw [decide_eq_true hbit] at hb
        rw [if_pos hbit] at hp
        have Hp := Lib.hid hp
        clear hp hbit
        go_wp2_with fail
        refine (Mul_any _ _ _ u2 ha).mono ?_; rintro e w' ⟨rfl, rfl⟩
        go_wp2_with fail
        go_round
        case rel => exact ⟨k - 1, by omega, by go_num, by rw [Hp.out]⟩
        case measure => simp [intOf]; omega
      · rw [decide_eq_false hbit] at hb
        rw [if_neg hbit] at hp
        have Hp := Lib.hid hp
        clear hp hbit
        go_wp2_with fail
        go_round
        case rel => exact ⟨k - 1, by omega, by go_num, by rw [Hp.out]⟩
        case measure => simp [intOf]; omega
    · go_wp2_with fail
      go_ret
      obtain rfl : k = 0 := by omega
      exact ⟨ret_int (by simp), rfl⟩
end Go.Proofs.Ytnichjocllfocaa
