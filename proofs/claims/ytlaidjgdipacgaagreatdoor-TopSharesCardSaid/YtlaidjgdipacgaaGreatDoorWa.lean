/-
  The texts Fm Fb Nd Pr Fp Um in one. (Merged by wip/lay12m.py.)
-/
import Derived.Laws.BitsAllLaws
import Derived.IntWalk

section
namespace Go.Proofs.YtlaidjgdipacgaaGreatDoor.Fm

def P : Int := 2305843009213693951
theorem P_eq : P = 2305843009213693951 := rfl
theorem P_pos : 0 < P := by unfold P; omega

def add (a b : Int) : Int := (a + b) % P
def sub (a b : Int) : Int := (a - b) % P
def mul (a b : Int) : Int := (a * b) % P
def pow (a : Int) (n : Nat) : Int := (a ^ n) % P

theorem rng (x : Int) : 0 ≤ x % P ∧ x % P < P := ⟨Int.emod_nonneg _ (by unfold P; omega), Int.emod_lt_of_pos _ P_pos⟩
theorem add_rng (a b : Int) : 0 ≤ add a b ∧ add a b < P := rng _
theorem sub_rng (a b : Int) : 0 ≤ sub a b ∧ sub a b < P := rng _
theorem mul_rng (a b : Int) : 0 ≤ mul a b ∧ mul a b < P := rng _
theorem pow_rng (a : Int) (n : Nat) : 0 ≤ pow a n ∧ pow a n < P := rng _

theorem fold_law (hi lo : Int) (h0 : 0 ≤ hi) (h1 : hi < 288230376151711744) (l0 : 0 ≤ lo) (l1 : lo < 18446744073709551616) :
    let n := lo % 2305843009213693952 + (hi * 8 + lo / 2305843009213693952)
    let m := n % 2305843009213693952 + n / 2305843009213693952
    (if 2305843009213693951 ≤ m then m - 2305843009213693951 else m) = (hi * 18446744073709551616 + lo) % P := by
  intro n m
  unfold P
  split <;> omega

theorem mod_of (x k y : Int) (h : x = P * k + y) (h0 : 0 ≤ y) (h1 : y < P) : x % P = y := by
  subst h; rw [Int.add_comm, Int.add_mul_emod_self_left]; exact Int.emod_eq_of_lt h0 h1

theorem mod_small (x : Int) (h0 : 0 ≤ x) (h1 : x < P) : x % P = x := Int.emod_eq_of_lt h0 h1

theorem mul_emod_l (a b : Int) : mul (a % P) b = mul a b := by unfold mul; rw [Int.mul_emod, Int.emod_emod, ← Int.mul_emod]
theorem mul_emod_r (a b : Int) : mul a (b % P) = mul a b := by unfold mul; rw [Int.mul_emod, Int.emod_emod, ← Int.mul_emod]
theorem add_emod_l (a b : Int) : add (a % P) b = add a b := by unfold add; rw [Int.emod_add_emod]
theorem add_emod_r (a b : Int) : add a (b % P) = add a b := by unfold add; rw [Int.add_emod_emod]
theorem sub_emod_l (a b : Int) : sub (a % P) b = sub a b := by unfold sub; rw [Int.emod_sub_emod]
theorem sub_emod_r (a b : Int) : sub a (b % P) = sub a b := by unfold sub; rw [Int.sub_emod_emod]
theorem pow_emod (a : Int) (n : Nat) : pow (a % P) n = pow a n := by
  unfold pow
  induction n with
  | zero => rw [Int.pow_zero, Int.pow_zero]
  | succ n ih => rw [Int.pow_succ, Int.mul_emod, ih, Int.emod_emod, ← Int.mul_emod, ← Int.pow_succ]

theorem pow_zero (a : Int) : pow a 0 = 1 := by unfold pow P; simp
theorem pow_one (a : Int) : pow a 1 = a % P := by unfold pow; rw [Int.pow_succ, Int.pow_zero, Int.one_mul]
theorem pow_add (a : Int) (m n : Nat) : mul (pow a m) (pow a n) = pow a (m + n) := by
  unfold mul pow; rw [← Int.mul_emod, Int.pow_add]
theorem pow_succ (a : Int) (m : Nat) : mul (pow a m) a = pow a (m + 1) := by
  rw [← pow_add a m 1, pow_one, mul_emod_r]
theorem pow_sq (a : Int) (m : Nat) : mul (pow a m) (pow a m) = pow a (2 * m) := by rw [pow_add]; congr 1; omega
theorem pow_bits (a : Int) (n k : Nat) :
    pow a (n / 2 ^ k) = if n / 2 ^ k % 2 = 1 then mul (mul (pow a (n / 2 ^ (k + 1))) (pow a (n / 2 ^ (k + 1)))) a else mul (pow a (n / 2 ^ (k + 1))) (pow a (n / 2 ^ (k + 1))) := by
  rw [Nat.pow_succ, ← Nat.div_div_eq_div_mul]
  generalize n / 2 ^ k = m
  rw [pow_sq, pow_succ]
  split
  · congr 1; omega
  · congr 1; omega
/-- From the lowest bit on. -/
theorem pow_low (a : Int) (n : Nat) : pow a n = if n % 2 = 1 then mul a (pow (mul a a) (n / 2)) else pow (mul a a) (n / 2) := by
  have e : pow (mul a a) (n / 2) = pow a (2 * (n / 2)) := by
    unfold mul; rw [pow_emod]; unfold pow; rw [show a * a = a ^ 2 by rw [Int.pow_succ, Int.pow_succ, Int.pow_zero, Int.one_mul], ← Int.pow_mul]
  rw [e]
  split
  · have : mul a (pow a (2 * (n / 2))) = mul (pow a (2 * (n / 2))) a := by unfold mul; rw [Int.mul_comm]
    rw [this, pow_succ]; congr 1; omega
  · congr 1; omega

theorem mul_comm (a b : Int) : mul a b = mul b a := by unfold mul; rw [Int.mul_comm]
theorem add_comm (a b : Int) : add a b = add b a := by unfold add; rw [Int.add_comm]
theorem mul_assoc (a b c : Int) : mul (mul a b) c = mul a (mul b c) := by
  show mul (a * b % P) c = mul a (b * c % P)
  rw [mul_emod_l, mul_emod_r]; unfold mul; rw [Int.mul_assoc]
theorem add_assoc (a b c : Int) : add (add a b) c = add a (add b c) := by
  show add ((a + b) % P) c = add a ((b + c) % P)
  rw [add_emod_l, add_emod_r]; unfold add; rw [Int.add_assoc]
theorem mul_add (a b c : Int) : mul a (add b c) = add (mul a b) (mul a c) := by
  show mul a ((b + c) % P) = add (a * b % P) (a * c % P)
  rw [mul_emod_r, add_emod_l, add_emod_r]; unfold mul add; rw [Int.mul_add]
theorem mul_sub (a b c : Int) : mul a (sub b c) = sub (mul a b) (mul a c) := by
  show mul a ((b - c) % P) = sub (a * b % P) (a * c % P)
  rw [mul_emod_r, sub_emod_l, sub_emod_r]; unfold mul sub; rw [Int.mul_sub]

theorem mul_pow (a b : Int) (n : Nat) : pow (mul a b) n = mul (pow a n) (pow b n) := by
  have e : (a * b) ^ n = a ^ n * b ^ n := by
    induction n with
    | zero => rw [Int.pow_zero, Int.pow_zero, Int.pow_zero]; rfl
    | succ n ih => rw [Int.pow_succ, Int.pow_succ, Int.pow_succ, ih]; grind
  show pow (a * b % P) n = _
  rw [pow_emod]; unfold pow mul; rw [e, ← Int.mul_emod]
/-- A polynomial's value. -/
def eval (l : List Int) (x : Int) : Int := l.foldr (fun c o => add (mul o x) c) 0
theorem eval_rng (l : List Int) (x : Int) : 0 ≤ eval l x ∧ eval l x < P := by
  cases l with
  | nil => exact ⟨by simp [eval], by simp [eval]; exact P_pos⟩
  | cons c t => exact add_rng _ _
theorem eval_cons (c : Int) (t : List Int) (x : Int) : eval (c :: t) x = add (mul (eval t x) x) c := rfl
theorem eval_nil (x : Int) : eval [] x = 0 := rfl
theorem eval_step (o u c x e : Int) : add (add o (mul c u)) (mul (mul u x) e) = add o (mul u (add (mul e x) c)) := by
  rw [add_assoc]; congr 1
  rw [mul_add, mul_comm c u, add_comm, mul_assoc, mul_comm x e]
end Go.Proofs.YtlaidjgdipacgaaGreatDoor.Fm
end

section
namespace Go.Proofs.YtlaidjgdipacgaaGreatDoor.Fb
open Go

theorem and61 (x : Int) (h0 : 0 ≤ x) (h1 : x < 18446744073709551616) : bits .and .u64 x 2305843009213693951 = x % 2305843009213693952 := by
  obtain ⟨n, rfl⟩ := Int.eq_ofNat_of_zero_le h0
  have h := u64_and_nat n 2305843009213693951 (by omega) (by omega)
  have e : n &&& 2305843009213693951 = n % 2305843009213693952 := Nat.and_two_pow_sub_one_eq_mod n 61
  rw [e] at h
  exact h

theorem or3 (x y : Int) (h0 : 0 ≤ x) (h1 : x < 2305843009213693952) (h2 : 0 ≤ y) (h3 : y < 8) : bits .or .u64 (x * 8) y = x * 8 + y := by
  obtain ⟨n, rfl⟩ := Int.eq_ofNat_of_zero_le h0
  obtain ⟨m, rfl⟩ := Int.eq_ofNat_of_zero_le h2
  have h := u64_or_nat (n * 8) m (by omega) (by omega)
  rw [nat_join 3 (n * 8) m (by omega) (by omega)] at h
  simpa using h

theorem fold1 (hi lo : Int) (h0 : 0 ≤ hi) (h1 : hi < 288230376151711744) (l0 : 0 ≤ lo) (l1 : lo < 18446744073709551616) :
    IntKind.u64.wrap (bits .and .u64 lo 2305843009213693951 + bits .or .u64 (IntKind.u64.wrap (hi * 8)) (lo / 2305843009213693952)) =
      lo % 2305843009213693952 + (hi * 8 + lo / 2305843009213693952) := by
  rw [and61 lo l0 l1, IntWalk.u64_in (hi * 8) (by omega), or3 hi _ h0 (by omega) (by omega) (by omega), IntWalk.u64_in _ (by omega)]

theorem fold2 (n : Int) (h0 : 0 ≤ n) (h1 : n < 18446744073709551616) :
    IntKind.u64.wrap (bits .and .u64 n 2305843009213693951 + n / 2305843009213693952) = n % 2305843009213693952 + n / 2305843009213693952 := by
  rw [and61 n h0 h1, IntWalk.u64_in _ (by omega)]

/-- The whole of 'fold', as the walk spells it. -/
theorem fold_is (hi lo : Int) (h0 : 0 ≤ hi) (h1 : hi < 288230376151711744) (l0 : 0 ≤ lo) (l1 : lo < 18446744073709551616) :
    ∃ n m : Int, IntKind.u64.wrap (bits .and .u64 lo 2305843009213693951 + bits .or .u64 (IntKind.u64.wrap (hi * 8)) (lo / 2305843009213693952)) = n ∧
      IntKind.u64.wrap (bits .and .u64 n 2305843009213693951 + n / 2305843009213693952) = m ∧
      ((decide (2305843009213693951 ≤ m) = true ∧ IntKind.u64.wrap (m - 2305843009213693951) = (hi * 18446744073709551616 + lo) % Fm.P) ∨
       (decide (2305843009213693951 ≤ m) = false ∧ m = (hi * 18446744073709551616 + lo) % Fm.P)) := by
  refine ⟨_, _, fold1 hi lo h0 h1 l0 l1, fold2 _ (by omega) (by omega), ?_⟩
  have hf := Fm.fold_law hi lo h0 h1 l0 l1
  simp only at hf
  split at hf
  · rename_i h; left; refine ⟨decide_eq_true h, ?_⟩; rw [IntWalk.u64_in _ (by omega)]; exact hf
  · rename_i h; right; exact ⟨decide_eq_false h, hf⟩
theorem and1 (x : Int) (h0 : 0 ≤ x) (h1 : x < 18446744073709551616) : bits .and .u64 x 1 = x % 2 := by
  obtain ⟨n, rfl⟩ := Int.eq_ofNat_of_zero_le h0
  have h := u64_and_nat n 1 (by omega) (by omega)
  rw [nat_mask1] at h
  exact h

theorem bit_test (n : Int) (j : Nat) (h0 : 0 ≤ n) (h1 : n < 18446744073709551616) :
    (bits .and .u64 (n / 2 ^ j) 1 == 1) = decide (n.toNat / 2 ^ j % 2 = 1) := by
  obtain ⟨m, rfl⟩ := Int.eq_ofNat_of_zero_le h0
  have e : (m : Int) / 2 ^ j = ((m / 2 ^ j : Nat) : Int) := by simp
  have hle : m / 2 ^ j ≤ m := Nat.div_le_self _ _
  rw [e, Int.toNat_natCast]
  generalize m / 2 ^ j = q at hle
  rw [and1 _ (by omega) (by omega)]
  rw [Bool.eq_iff_iff]; simp; omega
end Go.Proofs.YtlaidjgdipacgaaGreatDoor.Fb
end

section
namespace Go.Proofs.YtlaidjgdipacgaaGreatDoor.Nd
open Go Go.Proofs.YtlaidjgdipacgaaGreatDoor

theorem rem (n y T Y1 q1 r1 q0 r0 u32 un1 un0 : Int) (hT : 0 < T) (hN : n * T = u32 * 18446744073709551616 + un1 * 4294967296 + un0) (h1 : u32 = q1 * Y1 + r1) (h2 : r1 * 4294967296 + un1 = q0 * Y1 + r0)
    (hY : y * T = Y1 * 4294967296) (hr0 : 0 ≤ r0) (hr1 : r0 < Y1) (hu0 : 0 ≤ un0) (hu1 : un0 < 4294967296) : (r0 * 4294967296 + un0) / T = n % y := by
  have hR : r0 * 4294967296 + un0 = (n - (q1 * 4294967296 + q0) * y) * T := by
    have e1 : (n - (q1 * 4294967296 + q0) * y) * T = n * T - (q1 * 4294967296 + q0) * (y * T) := by grind
    rw [e1, hN, hY, h1]
    grind
  have hlt : r0 * 4294967296 + un0 < y * T := by rw [hY]; omega
  have hge : 0 ≤ r0 * 4294967296 + un0 := by omega
  obtain ⟨m, hm⟩ : ∃ m, n - (q1 * 4294967296 + q0) * y = m := ⟨_, rfl⟩
  rw [hm] at hR
  have hm0 : 0 ≤ m := by
    apply Classical.byContradiction; intro h
    have h3 : m * T < 0 := Int.mul_neg_of_neg_of_pos (by omega) hT
    omega
  have hmy : m < y := by
    apply Classical.byContradiction; intro h
    have h3 : y * T ≤ m * T := Int.mul_le_mul_of_nonneg_right (by omega) (by omega)
    omega
  rw [hR, Int.mul_ediv_cancel _ (by omega)]
  have hn : n = m + y * (q1 * 4294967296 + q0) := by grind
  rw [hn, Int.add_mul_emod_self_left, Int.emod_eq_of_lt hm0 hmy]

/-- All that the walk needs of a division by a small number, whose shift is T and 64 less it U. -/
theorem parts (hi lo y T U T1 : Int) (hT1 : 0 < T1) (hT : T = T1 * 4294967296) (hU : T * U = 18446744073709551616) (hU0 : 0 < U) (hy : 0 < y) (hyT : y * T < 18446744073709551616) (h0 : 0 ≤ hi) (h1 : hi < y) (l0 : 0 ≤ lo) (l1 : lo < 18446744073709551616) :
    ∃ u32 un10 : Int, hi * T + lo / U = u32 ∧ lo / U < T ∧ 0 ≤ lo / U ∧ lo * T % 18446744073709551616 = un10 ∧ 0 ≤ u32 ∧ u32 < y * T ∧ 0 ≤ un10 ∧ un10 < 18446744073709551616 ∧ y * T / 4294967296 = y * T1 ∧ y * T % 4294967296 = 0 ∧ 0 < y * T1 ∧
      u32 / (y * T1) < 4294967296 ∧ 0 ≤ u32 / (y * T1) ∧
      (∀ un21, u32 % (y * T1) * 4294967296 + un10 / 4294967296 = un21 → un21 < y * T ∧ 0 ≤ un21 ∧ 0 ≤ un21 / (y * T1) ∧ un21 / (y * T1) < 4294967296 ∧
        (un21 % (y * T1) * 4294967296 + un10 % 4294967296) / T = (hi * 18446744073709551616 + lo) % y ∧ un21 % (y * T1) * 4294967296 + un10 % 4294967296 < y * T ∧ 0 ≤ un21 % (y * T1)) := by
  have hTp : 0 < T := by rw [hT]; exact Int.mul_pos hT1 (by omega)
  have eY : y * T = y * T1 * 4294967296 := by rw [hT]; grind
  obtain ⟨Y1, hY1⟩ : ∃ Y1, y * T1 = Y1 := ⟨_, rfl⟩
  have hYp : 0 < Y1 := by rw [← hY1]; exact Int.mul_pos hy hT1
  rw [hY1] at eY ⊢
  have hd0 : 0 ≤ lo / U := Int.ediv_nonneg l0 (by omega)
  have hd1 : lo / U < T := Int.ediv_lt_of_lt_mul hU0 (by rw [hU]; exact l1)
  have hhT : hi * T ≤ (y - 1) * T := Int.mul_le_mul_of_nonneg_right (by omega) (by omega)
  have hhT0 : 0 ≤ hi * T := Int.mul_nonneg h0 (by omega)
  have e2 : (y - 1) * T = y * T - T := by grind
  have hm0 : 0 ≤ lo * T % 18446744073709551616 := Int.emod_nonneg _ (by omega)
  have hm1 : lo * T % 18446744073709551616 < 18446744073709551616 := Int.emod_lt_of_pos _ (by omega)
  obtain ⟨u32, hu⟩ : ∃ u, hi * T + lo / U = u := ⟨_, rfl⟩
  obtain ⟨un10, hv⟩ : ∃ u, lo * T % 18446744073709551616 = u := ⟨_, rfl⟩
  rw [hv] at hm0 hm1
  have hu1 : u32 < Y1 * 4294967296 := by omega
  refine ⟨u32, un10, hu, hd1, hd0, hv, by omega, by omega, hm0, hm1, by rw [eY]; exact Int.mul_ediv_cancel _ (by omega), by rw [eY]; exact Int.mul_emod_left _ _, hYp, ?_, Int.ediv_nonneg (by omega) (by omega), ?_⟩
  · exact Int.ediv_lt_of_lt_mul hYp (by rw [Int.mul_comm]; exact hu1)
  · intro un21 h21
    have hr1 := Int.emod_lt_of_pos u32 hYp
    have hr0 := Int.emod_nonneg u32 (show Y1 ≠ 0 by omega)
    have hs1 := Int.emod_lt_of_pos un21 hYp
    have hs0 := Int.emod_nonneg un21 (show Y1 ≠ 0 by omega)
    obtain ⟨r, hr⟩ : ∃ r, u32 % Y1 = r := ⟨_, rfl⟩
    obtain ⟨s, hs⟩ : ∃ s, un21 % Y1 = s := ⟨_, rfl⟩
    rw [hr] at h21 hr0 hr1
    have hlt : un21 < Y1 * 4294967296 := by omega
    refine ⟨by omega, by omega, Int.ediv_nonneg (by omega) (by omega), Int.ediv_lt_of_lt_mul hYp (by rw [Int.mul_comm]; exact hlt), ?_, by rw [hs] at hs1 ⊢; omega, hs0⟩
    have hU2 : lo = lo / U * U + lo % U := by have := Int.mul_ediv_add_emod lo U; rw [Int.mul_comm (lo / U)]; omega
    have hl0 : 0 ≤ lo % U := Int.emod_nonneg _ (by omega)
    have hl1 : lo % U < U := Int.emod_lt_of_pos _ hU0
    have hun : un10 = lo % U * T := by
      have e3 : lo * T = lo % U * T + 18446744073709551616 * (lo / U) := by
        calc lo * T = (lo / U * U + lo % U) * T := by rw [← hU2]
          _ = lo % U * T + (T * U) * (lo / U) := by grind
          _ = _ := by rw [hU]
      rw [← hv, e3, Int.add_mul_emod_self_left, Int.emod_eq_of_lt (Int.mul_nonneg hl0 (by omega))]
      have : lo % U * T < U * T := Int.mul_lt_mul_of_pos_right hl1 hTp
      rw [Int.mul_comm U T, hU] at this; exact this
    refine rem (hi * 18446744073709551616 + lo) y T Y1 (u32 / Y1) r (un21 / Y1) (un21 % Y1) u32 (un10 / 4294967296) (un10 % 4294967296) hTp ?_ ?_ ?_ eY hs0 hs1 (Int.emod_nonneg _ (by omega)) (Int.emod_lt_of_pos _ (by omega))
    · have e4 : u32 * 18446744073709551616 + un10 / 4294967296 * 4294967296 + un10 % 4294967296 = u32 * 18446744073709551616 + un10 := by omega
      rw [e4, ← hu, hun]
      calc (hi * 18446744073709551616 + lo) * T = hi * T * 18446744073709551616 + lo * T := by grind
        _ = hi * T * 18446744073709551616 + (lo / U * U + lo % U) * T := by rw [← hU2]
        _ = hi * T * 18446744073709551616 + (lo / U * (T * U) + lo % U * T) := by grind
        _ = _ := by rw [hU]; grind
    · rw [← hr]; have := Int.mul_ediv_add_emod u32 Y1; rw [Int.mul_comm (u32 / Y1)]; omega
    · rw [h21]; have := Int.mul_ediv_add_emod un21 Y1; rw [Int.mul_comm (un21 / Y1)]; omega
theorem and32 (x : Int) (h0 : 0 ≤ x) (h1 : x < 18446744073709551616) : bits .and .u64 x 4294967295 = x % 4294967296 := by
  obtain ⟨n, rfl⟩ := Int.eq_ofNat_of_zero_le h0
  have h := u64_and_nat n 4294967295 (by omega) (by omega)
  have e : n &&& 4294967295 = n % 4294967296 := Nat.and_two_pow_sub_one_eq_mod n 32
  rw [e] at h
  exact h
theorem or_at (k : Nat) (x y : Int) (h0 : 0 ≤ x) (h1 : x < 18446744073709551616) (hx : x % ((2 ^ k : Nat) : Int) = 0) (h2 : 0 ≤ y) (h3 : y < ((2 ^ k : Nat) : Int)) (hk : y < 18446744073709551616) : bits .or .u64 x y = x + y := by
  obtain ⟨n, rfl⟩ := Int.eq_ofNat_of_zero_le h0
  obtain ⟨m, rfl⟩ := Int.eq_ofNat_of_zero_le h2
  have h := u64_or_nat n m (by omega) (by omega)
  rw [nat_join k n m (by exact_mod_cast hx) (by exact_mod_cast h3)] at h
  rw [h]; simp
theorem w64 (x : Int) : IntKind.u64.wrap x = x % 18446744073709551616 := by rw [IntKind.wrap_u64]

/-- All equations that the walk over a division wants. -/
theorem facts (s : Nat) (hi lo y T U T1 : Int) (hs : T = ((2 ^ s : Nat) : Int)) (hT1 : 0 < T1) (hT : T = T1 * 4294967296) (hU : T * U = 18446744073709551616) (hU0 : 0 < U) (hy : 0 < y) (hyT : y * T < 18446744073709551616) (h0 : 0 ≤ hi) (h1 : hi < y) (l0 : 0 ≤ lo) (l1 : lo < 18446744073709551616) :
    ∃ Y Y1 HT D u32 v n1 n0 q1 p1 r1 x1 x2 x3 u21 q0 p0 r0 z1 z2 z3 z4 : Int, y * T = Y ∧ hi * T = HT ∧ lo / U = D ∧ 0 ≤ HT ∧ HT < 18446744073709551616 ∧ 0 ≤ Y ∧ Y < 18446744073709551616 ∧ Y / 4294967296 = Y1 ∧ ¬ Y1 = 0 ∧ bits .and .u64 Y 4294967295 = 0 ∧ bits .or .u64 HT D = u32 ∧ IntKind.u64.wrap (lo * T) = v ∧ v / 4294967296 = n1 ∧ bits .and .u64 v 4294967295 = n0 ∧
      (0 ≤ n1 ∧ n1 < 4294967296 ∧ 0 ≤ n0 ∧ n0 < 4294967296) ∧ IntKind.u64.wrap (u32.tdiv Y1) = q1 ∧ 0 ≤ q1 ∧ q1 < 4294967296 ∧ IntKind.u64.wrap (q1 * Y1) = p1 ∧ IntKind.u64.wrap (u32 - p1) = r1 ∧ 0 ≤ r1 ∧ r1 < 4294967296 ∧
      IntKind.u64.wrap (u32 * 4294967296) = x1 ∧ IntKind.u64.wrap (x1 + n1) = x2 ∧ IntKind.u64.wrap (q1 * Y) = x3 ∧ IntKind.u64.wrap (x2 - x3) = u21 ∧
      IntKind.u64.wrap (u21.tdiv Y1) = q0 ∧ 0 ≤ q0 ∧ q0 < 4294967296 ∧ IntKind.u64.wrap (q0 * Y1) = p0 ∧ IntKind.u64.wrap (u21 - p0) = r0 ∧ 0 ≤ r0 ∧ r0 < 4294967296 ∧
      IntKind.u64.wrap (u21 * 4294967296) = z1 ∧ IntKind.u64.wrap (z1 + n0) = z2 ∧ IntKind.u64.wrap (q0 * Y) = z3 ∧ IntKind.u64.wrap (z2 - z3) = z4 ∧ z4 / T = (hi * 18446744073709551616 + lo) % y := by
  obtain ⟨u32, v, a1, a2, a3, a4, a5, a6, a7, a8, b1, b2, b3, b4, b5, b6⟩ := parts hi lo y T U T1 hT1 hT hU hU0 hy hyT h0 h1 l0 l1
  have hTp : 0 < T := by rw [hT]; exact Int.mul_pos hT1 (by omega)
  have eY : y * T = y * T1 * 4294967296 := by rw [hT]; grind
  obtain ⟨Y1, hY1⟩ : ∃ Y1, y * T1 = Y1 := ⟨_, rfl⟩
  rw [hY1] at b1 b3 b4 b5 b6 eY
  obtain ⟨b6a, b6b, b6c, b6d, b6e, b6f, b6g⟩ := b6 _ rfl
  have hhT0 : 0 ≤ hi * T := Int.mul_nonneg h0 (by omega)
  have hor : bits .or .u64 (hi * T) (lo / U) = u32 := by
    rw [or_at s (hi * T) (lo / U) hhT0 (by omega) (by rw [← hs]; exact Int.mul_emod_left _ _) a3 (by rw [← hs]; exact a2) (by omega), a1]
  have hu1 : u32 = u32 / Y1 * Y1 + u32 % Y1 := by have := Int.mul_ediv_add_emod u32 Y1; rw [Int.mul_comm (u32 / Y1)]; omega
  obtain ⟨q1, hq1⟩ : ∃ q, u32 / Y1 = q := ⟨_, rfl⟩
  obtain ⟨r1, hr1⟩ : ∃ q, u32 % Y1 = q := ⟨_, rfl⟩
  have r1l : r1 < Y1 := by rw [← hr1]; exact Int.emod_lt_of_pos _ b3
  have r1g : 0 ≤ r1 := by rw [← hr1]; exact Int.emod_nonneg _ (by omega)
  rw [hq1] at b4 b5 hu1
  rw [hr1] at b6a b6b b6c b6d b6e b6f b6g hu1
  obtain ⟨u21, hu21⟩ : ∃ q, r1 * 4294967296 + v / 4294967296 = q := ⟨_, rfl⟩
  rw [hu21] at b6a b6b b6c b6d b6e b6f b6g
  have hu2 : u21 = u21 / Y1 * Y1 + u21 % Y1 := by have := Int.mul_ediv_add_emod u21 Y1; rw [Int.mul_comm (u21 / Y1)]; omega
  obtain ⟨q0, hq0⟩ : ∃ q, u21 / Y1 = q := ⟨_, rfl⟩
  obtain ⟨r0, hr0⟩ : ∃ q, u21 % Y1 = q := ⟨_, rfl⟩
  have r0l : r0 < Y1 := by rw [← hr0]; exact Int.emod_lt_of_pos _ b3
  rw [hq0] at b6c b6d hu2
  rw [hr0] at b6e b6f b6g hu2
  have m1 : q1 * (y * T) = q1 * Y1 * 4294967296 := by rw [eY]; grind
  have m0 : q0 * (y * T) = q0 * Y1 * 4294967296 := by rw [eY]; grind
  have g1 : 0 ≤ q1 * Y1 := Int.mul_nonneg b5 (by omega)
  have g0 : 0 ≤ q0 * Y1 := Int.mul_nonneg b6c (by omega)
  obtain ⟨M1, hM1⟩ : ∃ m, q1 * Y1 = m := ⟨_, rfl⟩
  obtain ⟨M0, hM0⟩ : ∃ m, q0 * Y1 = m := ⟨_, rfl⟩
  rw [hM1] at m1 g1 hu1
  rw [hM0] at m0 g0 hu2
  refine ⟨_, Y1, _, _, u32, v, _, _, q1, _, r1, _, _, _, u21, q0, _, r0, _, _, _, _, rfl, rfl, rfl, hhT0, by omega, by omega, hyT, b1, by omega, ?_, hor, by rw [w64]; exact a4, rfl, rfl, ?_, ?_, b5, b4, rfl, ?_, r1g, by omega, rfl, rfl, rfl, ?_, ?_, b6c, b6d, rfl, ?_, b6g, by omega, rfl, rfl, rfl, rfl, ?_⟩
  · rw [and32 _ (by omega) hyT, b2]
  · rw [and32 _ a7 a8]; omega
  · rw [Int.tdiv_eq_ediv_of_nonneg a5, hq1, w64]; omega
  · rw [w64, w64, hM1]; omega
  · rw [w64, w64, w64, w64, m1]; omega
  · rw [Int.tdiv_eq_ediv_of_nonneg b6b, hq0, w64]; omega
  · rw [w64, w64, hM0]; omega
  · rw [← b6e]
    congr 1
    rw [w64, w64, w64, w64, m0, and32 _ a7 a8]; omega
end Go.Proofs.YtlaidjgdipacgaaGreatDoor.Nd
end

section
namespace Go.Proofs.YtlaidjgdipacgaaGreatDoor.Pr

def IsPrime (p : Nat) : Prop := 1 < p ∧ ∀ d, d ∣ p → d = 1 ∨ d = p

theorem coprime_of {p a : Nat} (hp : IsPrime p) (ha : a % p ≠ 0) : Nat.Coprime a p := by
  rcases hp.2 _ (Nat.gcd_dvd_right a p) with h | h
  · exact h
  · exact absurd (Nat.mod_eq_zero_of_dvd (h ▸ Nat.gcd_dvd_left a p)) ha

theorem perm_of {l1 l2 : List Nat} (hn : l1.Nodup) (hs : ∀ x ∈ l1, x ∈ l2) (hl : l2.length ≤ l1.length) : l1.Perm l2 := by
  induction l1 generalizing l2 with
  | nil => simp at hl; subst hl; exact .nil
  | cons x t ih =>
    rw [List.nodup_cons] at hn
    have hx : x ∈ l2 := hs x (by simp)
    have h1 := List.perm_cons_erase hx
    refine .trans (.cons x (ih hn.2 ?_ ?_)) h1.symm
    · intro y hy
      exact (List.mem_erase_of_ne (by rintro rfl; exact hn.1 hy)).2 (hs y (by simp [hy]))
    · have := h1.length_eq; simp at this hl ⊢; omega

def prod : List Nat → Nat
  | [] => 1
  | x :: t => x * prod t

theorem prod_perm {l1 l2 : List Nat} (h : l1.Perm l2) : prod l1 = prod l2 := by
  induction h with
  | nil => rfl
  | cons x _ ih => simp [prod, ih]
  | swap x y l => simp [prod, Nat.mul_left_comm]
  | trans _ _ h1 h2 => exact h1.trans h2

theorem prod_scaled (a p : Nat) (l : List Nat) : prod (l.map fun i => a * i % p) % p = a ^ l.length * prod l % p := by
  induction l with
  | nil => simp [prod]
  | cons x t ih =>
    simp only [List.map_cons, prod, List.length_cons]
    rw [Nat.mul_mod, ih, ← Nat.mul_mod, Nat.mod_mul_mod, Nat.pow_succ]
    congr 1; ac_rfl

theorem prod_coprime {p : Nat} (l : List Nat) (h : ∀ x ∈ l, Nat.Coprime x p) : Nat.Coprime (prod l) p := by
  induction l with
  | nil => simp [prod]
  | cons x t ih => exact Nat.Coprime.mul_left (h x (by simp)) (ih fun y hy => h y (by simp [hy]))

theorem dvd_sub_of_mod {p x y : Nat} (h : x % p = y % p) : p ∣ y - x := by
  have := Nat.sub_mod_eq_zero_of_mod_eq h.symm
  exact Nat.dvd_of_mod_eq_zero this
theorem mod_of_dvd_sub {p x y : Nat} (hxy : x ≤ y) (h : p ∣ y - x) : x % p = y % p := by
  obtain ⟨k, hk⟩ := h
  have : y = x + p * k := by omega
  rw [this, Nat.add_mul_mod_self_left]

/-- Of numbers below p what cancels. -/
theorem cancel {p a x y : Nat} (hc : Nat.Coprime a p) (h : a * x % p = a * y % p) : x % p = y % p := by
  rcases Nat.le_total x y with hxy | hxy
  · have h1 : p ∣ a * (y - x) := by
      rw [Nat.mul_sub]; exact dvd_sub_of_mod h
    have h2 := (Nat.Coprime.dvd_of_dvd_mul_left hc.symm h1)
    exact mod_of_dvd_sub hxy h2
  · have h1 : p ∣ a * (x - y) := by
      rw [Nat.mul_sub]; exact dvd_sub_of_mod h.symm
    have h2 := (Nat.Coprime.dvd_of_dvd_mul_left hc.symm h1)
    exact (mod_of_dvd_sub hxy h2).symm

theorem fermat {p a : Nat} (hp : IsPrime p) (ha : a % p ≠ 0) : a ^ (p - 1) % p = 1 := by
  have h1p := hp.1
  have hc := coprime_of hp ha
  let l := List.range' 1 (p - 1)
  have hl : ∀ x ∈ l, 0 < x ∧ x < p := by
    intro x hx; simp [l, List.mem_range'_1] at hx; omega
  have hperm : (l.map fun i => a * i % p).Perm l := by
    apply perm_of
    · rw [List.nodup_iff_pairwise_ne, List.pairwise_map]
      refine List.Pairwise.imp_of_mem ?_ (List.nodup_iff_pairwise_ne.1 (List.nodup_range' (s := 1) (n := p - 1)))
      intro x y hx hy hne heq
      have := cancel hc heq
      rw [Nat.mod_eq_of_lt (hl x hx).2, Nat.mod_eq_of_lt (hl y hy).2] at this
      exact hne this
    · intro y hy
      rw [List.mem_map] at hy
      obtain ⟨x, hx, rfl⟩ := hy
      have hx' := hl x hx
      have h2 : a * x % p < p := Nat.mod_lt _ (by omega)
      have h3 : a * x % p ≠ 0 := by
        intro h0
        have := Nat.Coprime.dvd_of_dvd_mul_left hc.symm (Nat.dvd_of_mod_eq_zero h0)
        exact absurd (Nat.le_of_dvd hx'.1 this) (by omega)
      simp [l, List.mem_range'_1]; omega
    · simp
  have hprod := prod_scaled a p l
  rw [prod_perm hperm] at hprod
  have hcp : Nat.Coprime (prod l) p := prod_coprime l fun x hx => coprime_of hp (by rw [Nat.mod_eq_of_lt (hl x hx).2]; have := (hl x hx).1; omega)
  have hlen : l.length = p - 1 := by simp [l]
  rw [hlen] at hprod
  have := cancel hcp (x := 1) (y := a ^ (p - 1)) (by rw [Nat.mul_one, Nat.mul_comm, hprod, Nat.mul_comm])
  rw [← this, Nat.mod_eq_of_lt h1p]

/-- Powers that are 1: of the greatest common part of two exponents too. -/
theorem pow_gcd (m n p g : Nat) (hm : g ^ m % p = 1) (hn : g ^ n % p = 1) : g ^ (Nat.gcd m n) % p = 1 := by
  induction m, n using Nat.gcd.induction with
  | H0 n => simpa using hn
  | H1 m n hpos ih =>
    rw [Nat.gcd_rec]
    apply ih _ hm
    have h2 : g ^ n % p = g ^ (n % m) % p := by
      conv => lhs; rw [← Nat.div_add_mod n m, Nat.pow_add, Nat.pow_mul]
      rw [Nat.mul_mod, Nat.pow_mod, hm]
      simp
    rw [← h2, hn]

theorem exists_prime : ∀ n : Nat, 1 < n → ∃ q, IsPrime q ∧ q ∣ n := by
  intro n
  induction n using Nat.strongRecOn with
  | ind n ih =>
    intro hn
    by_cases hp : IsPrime n
    · exact ⟨n, hp, Nat.dvd_refl n⟩
    · have : ∃ d, d ∣ n ∧ d ≠ 1 ∧ d ≠ n := by
        apply Classical.byContradiction
        intro hc
        apply hp
        refine ⟨hn, fun d hd => ?_⟩
        by_cases h1 : d = 1
        · exact .inl h1
        · by_cases h2 : d = n
          · exact .inr h2
          · exact absurd ⟨d, hd, h1, h2⟩ hc
      obtain ⟨d, hd, h1, h2⟩ := this
      have hle := Nat.le_of_dvd (by omega) hd
      have hd0 : d ≠ 0 := by rintro rfl; simp at hd; omega
      obtain ⟨q, hq, hqd⟩ := ih d (by omega) (by omega)
      exact ⟨q, hq, Nat.dvd_trans hqd hd⟩

theorem prime_dvd_mul {p a b : Nat} (hp : IsPrime p) (h : p ∣ a * b) : p ∣ a ∨ p ∣ b := by
  by_cases ha : a % p = 0
  · exact .inl (Nat.dvd_of_mod_eq_zero ha)
  · exact .inr (Nat.Coprime.dvd_of_dvd_mul_left (coprime_of hp ha).symm h)

theorem prime_dvd_prod {p : Nat} (hp : IsPrime p) (l : List Nat) (h : p ∣ prod l) : ∃ x ∈ l, p ∣ x := by
  induction l with
  | nil => simp only [prod] at h; have := Nat.le_of_dvd (by omega) h; have := hp.1; omega
  | cons x t ih =>
    rcases prime_dvd_mul hp h with h | h
    · exact ⟨x, by simp, h⟩
    · obtain ⟨y, hy, hd⟩ := ih h; exact ⟨y, by simp [hy], hd⟩

/-- A number is prime if it has no divisor from 2 up to its root. -/
def small (n : Nat) : Bool := decide (1 < n) && (List.range 60).all fun i => decide (i < 2) || decide (n % i ≠ 0) || decide (n ≤ i)

theorem small_prime {n : Nat} (h : small n = true) (hb : n < 3600) : IsPrime n := by
  unfold small at h
  simp only [Bool.and_eq_true, decide_eq_true_eq, List.all_eq_true, List.mem_range, Bool.or_eq_true] at h
  obtain ⟨h1, h2⟩ := h
  refine ⟨h1, fun d hd => ?_⟩
  obtain ⟨k, hk⟩ := hd
  by_cases e1 : d = 1
  · exact .inl e1
  by_cases e2 : d = n
  · exact .inr e2
  exfalso
  have hd0 : d ≠ 0 := by rintro rfl; simp at hk; omega
  have hk0 : k ≠ 0 := by rintro rfl; simp at hk; omega
  have hk1 : k ≠ 1 := by rintro rfl; simp at hk; omega
  by_cases hd60 : d < 60
  · rcases h2 d hd60 with (h | h) | h
    · omega
    · exact h (by rw [hk]; exact Nat.mul_mod_right d k)
    · have : n ≥ d * 2 := by rw [hk]; exact Nat.mul_le_mul_left d (by omega)
      omega
  · have hk60 : k < 60 := by
      apply Nat.lt_of_not_le; intro hk60
      have : 60 * 60 ≤ d * k := Nat.mul_le_mul (by omega) hk60
      omega
    rcases h2 k hk60 with (h | h) | h
    · omega
    · exact h (by rw [hk]; exact Nat.mul_mod_left d k)
    · have : n ≥ 2 * k := by rw [hk]; exact Nat.mul_le_mul_right k (by omega)
      omega

/-- A NUMBER IS PRIME IF IT HAS A PRIMITIVE ROOT g: qs are primes whose product is n - 1. -/
theorem prime_of_root {n g : Nat} (qs : List Nat) (h1 : 1 < n) (hq : ∀ q ∈ qs, IsPrime q) (hprod : prod qs = n - 1)
    (hg : g ^ (n - 1) % n = 1) (hr : ∀ q ∈ qs, Nat.gcd (g ^ ((n - 1) / q) % n + (n - 1)) n = 1) : IsPrime n := by
  obtain ⟨p, hp, hpn⟩ := exists_prime n h1
  have hp1 := hp.1
  have hple := Nat.le_of_dvd (by omega) hpn
  have modp : ∀ x, x % n % p = x % p := fun x => Nat.mod_mod_of_dvd x hpn
  have hgp : g ^ (n - 1) % p = 1 := by rw [← modp, hg, Nat.mod_eq_of_lt hp1]
  have hga : g % p ≠ 0 := by
    intro h0
    have : g ^ (n - 1) % p = 0 := by
      rw [Nat.pow_mod, h0, Nat.zero_pow (by omega)]; simp
    omega
  have hf := fermat hp hga
  have hd := pow_gcd _ _ p g hgp hf
  generalize hdd : Nat.gcd (n - 1) (p - 1) = d at hd
  have hdn : d ∣ n - 1 := hdd ▸ Nat.gcd_dvd_left _ _
  have hdp : d ∣ p - 1 := hdd ▸ Nat.gcd_dvd_right _ _
  by_cases hlt : d = n - 1
  · have := Nat.le_of_dvd (by omega) hdp
    have hpe : p = n := by omega
    exact hpe ▸ hp
  · exfalso
    obtain ⟨k, hk⟩ := hdn
    have hk1 : 1 < k := by
      rcases Nat.lt_or_ge 1 k with h | h
      · exact h
      · have : k = 0 ∨ k = 1 := by omega
        rcases this with rfl | rfl
        · simp at hk; omega
        · simp at hk; omega
    obtain ⟨r, hr', hrk⟩ := exists_prime k hk1
    obtain ⟨q, hqm, hrq⟩ := prime_dvd_prod hr' qs (by rw [hprod, hk]; exact Nat.dvd_mul_left_of_dvd hrk d)
    have hrqe : r = q := by
      rcases (hq q hqm).2 r hrq with h | h
      · have := hr'.1; omega
      · exact h
    subst hrqe
    obtain ⟨j, hj⟩ := hrk
    have hr0 : 0 < r := by have := hr'.1; omega
    have hdiv : (n - 1) / r = d * j := by
      rw [hk, hj, show d * (r * j) = r * (d * j) by rw [Nat.mul_left_comm], Nat.mul_div_cancel_left _ hr0]
    have hone : g ^ ((n - 1) / r) % p = 1 := by
      rw [hdiv, Nat.pow_mul, Nat.pow_mod, hd]; simp; exact Nat.mod_eq_of_lt hp1
    have hg1 := hr r hqm
    have hpd : p ∣ g ^ ((n - 1) / r) % n + (n - 1) := by
      apply Nat.dvd_of_mod_eq_zero
      obtain ⟨c, hc⟩ := hpn
      rw [Nat.add_mod, modp, hone]
      rw [← Nat.add_mod_mod] 
      have : 1 % p + (n - 1) % p = 1 + (n - 1) % p := by rw [Nat.mod_eq_of_lt hp1]
      rw [Nat.add_mod_mod, Nat.add_mod_mod, show 1 + (n - 1) = n by omega, hc]
      exact Nat.mul_mod_right p c
    have := Nat.dvd_gcd hpd hpn
    rw [hg1] at this
    have := Nat.le_of_dvd (by omega) this
    omega

/-- Powers modulo, by squares: so that the kernel can reckon them. -/
def powmod (n : Nat) : Nat → Nat → Nat → Nat
  | 0, _, _ => 1 % n
  | f + 1, g, e => if e = 0 then 1 % n else if e % 2 = 1 then g * powmod n f (g * g % n) (e / 2) % n else powmod n f (g * g % n) (e / 2)

theorem powmod_eq (n f g e : Nat) (h : e < 2 ^ f) : powmod n f g e = g ^ e % n := by
  induction f generalizing g e with
  | zero => simp at h; subst h; simp [powmod]
  | succ f ih =>
    unfold powmod
    by_cases h0 : e = 0
    · subst h0; simp
    · rw [if_neg h0]
      have hlt : e / 2 < 2 ^ f := by rw [Nat.pow_succ] at h; omega
      rw [ih _ _ hlt]
      have key : g * g % n * 1 = g * g % n := Nat.mul_one _
      have e2 : (g * g % n) ^ (e / 2) % n = (g * g) ^ (e / 2) % n := by rw [← Nat.pow_mod]
      rw [e2, ← Nat.pow_two, ← Nat.pow_mul]
      split
      · rename_i ho
        rw [Nat.mul_mod_mod, ← Nat.pow_succ']
        congr 2; omega
      · congr 2; omega
end Go.Proofs.YtlaidjgdipacgaaGreatDoor.Pr
end

section
namespace Go.Proofs.YtlaidjgdipacgaaGreatDoor.Fm
open Go.Proofs.YtlaidjgdipacgaaGreatDoor.Pr

def PN : Nat := 2305843009213693951
theorem P_cast : P = (PN : Int) := rfl

theorem pw (e : Nat) (he : e < 2 ^ 61) : 37 ^ e % PN = powmod PN 61 37 e := (powmod_eq PN 61 37 e he).symm

theorem PN_prime : IsPrime PN := by
  refine prime_of_root (n := PN) (g := 37) [2, 3, 3, 5, 5, 7, 11, 13, 31, 41, 61, 151, 331, 1321] (by unfold PN; omega) ?_ (by decide +kernel) ?_ ?_
  · intro q hq
    refine small_prime ?_ ?_
    · revert q; decide +kernel
    · revert q; decide +kernel
  · rw [pw _ (by unfold PN; omega)]; decide +kernel
  · intro q hq
    have hlt : (PN - 1) / q < 2 ^ 61 := Nat.lt_of_le_of_lt (Nat.div_le_self _ _) (by unfold PN; omega)
    rw [pw _ hlt]
    clear hlt
    revert q; decide +kernel


def e2 : Nat := PN - 2
theorem e2_eq : e2 = 2305843009213693949 := rfl
theorem e2_succ : e2 + 1 = PN - 1 := rfl
/-- What times a number is 1; 0 of 0. -/
def inv (a : Int) : Int := pow a e2
theorem inv_rng (a : Int) : 0 ≤ inv a ∧ inv a < P := pow_rng _ _

theorem pow_nat (n k : Nat) : pow (n : Int) k = ((n ^ k % PN : Nat) : Int) := by
  unfold pow; rw [P_cast, Int.natCast_emod, Int.natCast_pow]

theorem fermat_int (a : Int) (ha : a % P ≠ 0) : pow a (PN - 1) = 1 := by
  have hr := rng a
  rw [← pow_emod]
  obtain ⟨n, hn⟩ := Int.eq_ofNat_of_zero_le hr.1
  rw [hn, pow_nat]
  have hlt : n < PN := by have := hr.2; rw [hn, P_cast] at this; exact Int.ofNat_lt.1 this
  have h0 : n % PN ≠ 0 := by rw [Nat.mod_eq_of_lt hlt]; intro h0; apply ha; rw [hn, h0]; rfl
  rw [fermat PN_prime h0]; rfl

theorem mul_inv (a : Int) (ha : a % P ≠ 0) : mul a (inv a) = 1 := by
  rw [mul_comm, inv, pow_succ, e2_succ, fermat_int a ha]

theorem one_mul (a : Int) : mul 1 a = a % P := by unfold mul; rw [Int.one_mul]
theorem mul_one (a : Int) : mul a 1 = a % P := by unfold mul; rw [Int.mul_one]
theorem mul_zero (a : Int) : mul a 0 = 0 := by unfold mul; rw [Int.mul_zero]; rfl

theorem inv_unique (a x : Int) (h0 : 0 ≤ x) (h1 : x < P) (h : mul x a = 1) : x = inv a := by
  have ha : a % P ≠ 0 := by
    intro h0; rw [← mul_emod_r, h0, mul_zero] at h; exact absurd h (by decide)
  have h2 : mul x (mul a (inv a)) = inv a := by rw [← mul_assoc, h, one_mul, mod_small _ (inv_rng a).1 (inv_rng a).2]
  rw [mul_inv a ha, mul_one, mod_small _ h0 h1] at h2
  exact h2

theorem mul_eq_zero (a b : Int) : mul a b = 0 ↔ a % P = 0 ∨ b % P = 0 := by
  constructor
  · intro h
    by_cases ha : a % P = 0
    · exact .inl ha
    · right
      have h2 : mul (inv a) (mul a b) = b % P := by rw [← mul_assoc, mul_comm (inv a), mul_inv a ha, one_mul]
      rw [h, mul_zero] at h2; exact h2.symm
  · rintro (h | h)
    · rw [mul_comm, ← mul_emod_r, h, mul_zero]
    · rw [← mul_emod_r, h, mul_zero]

/-- A step of the greatest common part: what a is taken of in it goes on. -/
theorem euclid_step (a r s x y q : Int) (hx : mul x a = r % P) (hy : mul y a = s % P) : mul (sub x (mul q y)) a = (r - q * s) % P := by
  rw [mul_comm, mul_sub, mul_comm a x, hx, show mul a (mul q y) = mul q (mul y a) by rw [mul_comm a, mul_assoc], hy]
  rw [sub_emod_l]
  rw [mul_emod_r]; unfold sub mul; rw [Int.sub_emod_emod]

theorem gcd_step (r s : Int) (h0 : 0 ≤ r) (h1 : 0 < s) : Int.gcd s (r - r / s * s) = Int.gcd r s := by
  have : r - r / s * s = r % s := by rw [Int.emod_def, Int.mul_comm]
  rw [this]
  obtain ⟨n, rfl⟩ := Int.eq_ofNat_of_zero_le h0
  obtain ⟨m, rfl⟩ := Int.eq_ofNat_of_zero_le (show 0 ≤ s by omega)
  rw [← Int.natCast_emod]
  show Nat.gcd m (n % m) = Nat.gcd n m
  rw [Nat.gcd_comm n m, Nat.gcd_rec m n, Nat.gcd_comm]
theorem gcd_start (a : Int) (ha : a % P ≠ 0) : Int.gcd P (a % P) = 1 := by
  have hr := rng a
  obtain ⟨n, hn⟩ := Int.eq_ofNat_of_zero_le hr.1
  have hlt : n < PN := by have := hr.2; rw [hn, P_cast] at this; exact Int.ofNat_lt.1 this
  rw [hn, P_cast, Int.gcd_comm]
  have h0 : n % PN ≠ 0 := by rw [Nat.mod_eq_of_lt hlt]; intro h0; apply ha; rw [hn, h0]; rfl
  exact coprime_of PN_prime h0

end Go.Proofs.YtlaidjgdipacgaaGreatDoor.Fm
end

section
namespace Go.Proofs.YtlaidjgdipacgaaGreatDoor

namespace Gm
def Q : Int := 2305843009213691579
def R : Int := 1152921504606845789
def add (m a b : Int) : Int := (a + b) % m
def mul (m a b : Int) : Int := (a * b) % m
def pow (m a : Int) (n : Nat) : Int := a ^ n % m
def base (n : Int) : Int := pow Q 4 n.toNat

theorem rng {m : Int} (hm : 0 < m) (x : Int) : 0 ≤ x % m ∧ x % m < m := ⟨Int.emod_nonneg _ (by omega), Int.emod_lt_of_pos _ hm⟩
theorem Q_pos : 0 < Q := by decide
theorem R_pos : 0 < R := by decide
theorem pow_emod (m a : Int) (n : Nat) : (a % m) ^ n % m = a ^ n % m := by
  induction n with
  | zero => simp
  | succ n ih => rw [Int.pow_succ, Int.pow_succ, Int.mul_emod, ih, Int.emod_emod, ← Int.mul_emod]
theorem pow_pow (m a : Int) (j k : Nat) : pow m (pow m a j) k = pow m a (j * k) := by
  unfold pow
  rw [pow_emod, ← Int.pow_mul]
theorem mul_pow (m a : Int) (j k : Nat) : mul m (pow m a j) (pow m a k) = pow m a (j + k) := by
  unfold mul pow
  rw [← Int.mul_emod, Int.pow_add]
theorem mul_comm (m a b : Int) : mul m a b = mul m b a := by unfold mul; rw [Int.mul_comm]
theorem mul_assoc (m a b c : Int) : mul m (mul m a b) c = mul m a (mul m b c) := by
  unfold mul
  rw [Int.mul_emod, Int.emod_emod, ← Int.mul_emod, Int.mul_emod a, Int.emod_emod, ← Int.mul_emod, Int.mul_assoc]
theorem pow_nat (n k m : Nat) : pow (m : Int) (n : Int) k = ((n ^ k % m : Nat) : Int) := by
  unfold pow; simp
theorem base_R : pow Q 4 1152921504606845789 = 1 := by
  have h := Pr.powmod_eq 2305843009213691579 61 4 1152921504606845789 (by decide)
  have e : Pr.powmod 2305843009213691579 61 4 1152921504606845789 = 1 := by decide +kernel
  have := pow_nat 4 1152921504606845789 2305843009213691579
  rw [← h, e] at this
  exact this
theorem pow_one_of {m a : Int} {r : Nat} (h : pow m a r = 1) (hm : 1 < m) (k : Nat) : pow m a (r * k) = 1 := by
  rw [← pow_pow, h]
  unfold pow
  rw [Int.one_pow]
  exact Int.emod_eq_of_lt (by omega) hm
theorem pow_mod {m a : Int} {r : Nat} (h : pow m a r = 1) (hm : 1 < m) (n : Nat) : pow m a (n % r) = pow m a n := by
  have e : n = r * (n / r) + n % r := (Nat.div_add_mod n r).symm
  have h1 := mul_pow m a (r * (n / r)) (n % r)
  rw [pow_one_of h hm, ← e] at h1
  rw [← h1]
  unfold mul pow
  rw [Int.one_mul, Int.emod_emod]
def RN : Nat := 1152921504606845789
theorem R_cast : R = (RN : Int) := rfl
/-- A power of the base hangs on its exponent modulo R alone. -/
theorem base_mod (n : Int) (h : 0 ≤ n) : base (n % R) = base n := by
  unfold base
  have e : (n % R).toNat = n.toNat % RN := by
    rw [R_cast]; unfold RN; omega
  rw [e]
  exact pow_mod (r := RN) base_R (by decide) _
theorem base_add (a b : Int) (ha : 0 ≤ a) (hb : 0 ≤ b) : mul Q (base a) (base b) = base (a + b) := by
  unfold base
  rw [mul_pow]
  congr 1
  omega
theorem base_pow (a b : Int) (ha : 0 ≤ a) (hb : 0 ≤ b) : pow Q (base a) b.toNat = base (a * b) := by
  unfold base
  rw [pow_pow]
  congr 1
  rw [Int.toNat_mul ha hb]
theorem base_rng (n : Int) : 0 ≤ base n ∧ base n < Q := rng Q_pos _
/-- What is a power of the base is of the group. -/
theorem base_in (n : Int) : 0 < base n ∧ base n < Q ∧ pow Q (base n) RN = 1 := by
  have h1 : pow Q (base n) RN = 1 := by
    unfold base
    rw [pow_pow, Nat.mul_comm]
    exact pow_one_of base_R (by decide) _
  refine ⟨?_, (base_rng n).2, h1⟩
  rcases Int.lt_or_eq_of_le (base_rng n).1 with h | h
  · exact h
  · rw [← h] at h1
    unfold pow at h1
    rw [Int.zero_pow (by decide)] at h1
    exact absurd h1 (by decide)
/-- Of what is of the group there is an inverse. -/
theorem inv_of_in {x : Int} (h : pow Q x RN = 1) (k : Nat) : ∃ y, mul Q y (pow Q x k) = 1 := by
  refine ⟨pow Q (pow Q x k) (RN - 1), ?_⟩
  have h1 := mul_pow Q (pow Q x k) (RN - 1) 1
  have e : pow Q (pow Q x k) 1 = pow Q x k := by
    unfold pow
    rw [Int.pow_succ, Int.pow_zero, Int.one_mul, Int.emod_emod]
  rw [e] at h1
  rw [h1, pow_pow, Nat.mul_comm]
  exact pow_one_of (r := RN) h (by decide) k
theorem inv_unique {m a x y : Int} (hx : mul m x a = 1) (hy : mul m y a = 1) : x % m = y % m := by
  have h1 : mul m (mul m x a) y = mul m 1 y := by rw [hx]
  rw [mul_assoc, mul_comm m a y, hy] at h1
  unfold mul at h1
  rw [Int.mul_one, Int.one_mul] at h1
  exact h1
/-- What a signature's check makes of an honest one: the commitment. -/
theorem sig_back {x k c off : Int} (hx : 0 ≤ x) (hk : 0 ≤ k) (hc : 0 ≤ c) (ho : mul Q off (pow Q (base x) c.toNat) = 1) :
    mul Q (base (add R (mul R c x) k)) off = base k := by
  have e1 : base (add R (mul R c x) k) = base (x * c + k) := by
    unfold add mul
    rw [Int.emod_add_emod, base_mod _ (by have := Int.mul_nonneg hc hx; omega), Int.mul_comm]
  rw [e1, ← base_add _ _ (Int.mul_nonneg hx hc) hk, ← base_pow _ _ hx hc, mul_comm Q _ off, ← mul_assoc, ho]
  unfold mul
  rw [Int.one_mul, Int.emod_eq_of_lt (base_rng k).1 (base_rng k).2]

/-! ### Shares -/
def sub (x k : Int) : Int := add R x (R - k % R)
def above (ids : List Int) (x id : Int) : Int := ids.foldl (fun a k => if k = id then a else mul R a (sub x k)) 1
def invN (b : Int) : Int := ((Pr.powmod RN 60 b.toNat (RN - 2) : Nat) : Int)
def weight (ids : List Int) (x id : Int) : Int := mul R (above ids x id) (invN (above ids id id))
/-- The polynomial's value, as Split counts it: from a power on. -/
def evFrom (x : Int) : List Int → Int → Int → Int
  | [], o, _ => o
  | c :: l, o, p => evFrom x l (add R o (mul R c p)) (mul R p x)
def ev (poly : List Int) (x : Int) : Int := evFrom x poly 0 1
/-- The same, nothing taken off. -/
def big (x : Int) : List Int → Nat → Int
  | [], _ => 0
  | c :: l, p => c * x ^ p + big x l (p + 1)
theorem evFrom_big (x : Int) : ∀ (l : List Int) (o : Int) (p : Nat), evFrom x l (o % R) (x ^ p % R) = (o + big x l p) % R
  | [], o, p => by simp [evFrom, big]
  | c :: l, o, p => by
    have e1 : add R (o % R) (mul R c (x ^ p % R)) = (o + c * x ^ p) % R := by
      unfold add mul
      rw [Int.emod_add_emod, Int.add_emod_emod, Int.add_emod, Int.mul_emod c, Int.emod_emod, ← Int.mul_emod, ← Int.add_emod]
    have e2 : mul R (x ^ p % R) x = x ^ (p + 1) % R := by
      unfold mul
      rw [Int.mul_emod, Int.emod_emod, ← Int.mul_emod, Int.pow_succ]
    show evFrom x l (add R (o % R) (mul R c (x ^ p % R))) (mul R (x ^ p % R) x) = _
    rw [e1, e2, evFrom_big x l (o + c * x ^ p) (p + 1)]
    show (o + c * x ^ p + big x l (p + 1)) % R = (o + (c * x ^ p + big x l (p + 1))) % R
    rw [Int.add_assoc]
theorem ev_big (poly : List Int) (x : Int) : ev poly x = big x poly 0 % R := by
  have := evFrom_big x poly 0 0
  rw [Int.zero_add, Int.pow_zero] at this
  exact this
/-- All weights times powers. -/
def moment (ids : List Int) (x : Int) (l : List Int) (p : Nat) : Int := (l.map fun i => weight ids x i * i ^ p).sum
def fine (ids : List Int) (x : Int) : Bool := (List.range ids.length).all fun p => decide (moment ids x ids p % R = x ^ p % R)
theorem sum_zero : ∀ l : List Int, (l.map fun _ => (0 : Int)).sum = 0
  | [] => rfl
  | a :: l => by rw [List.map_cons, List.sum_cons, sum_zero l]; rfl
theorem moment_big (ids : List Int) (x : Int) (hf : fine ids x = true) : ∀ (poly : List Int) (p : Nat), p + poly.length ≤ ids.length → (ids.map fun i => weight ids x i * big i poly p).sum % R = big x poly p % R
  | [], p, _ => by
    have e : (ids.map fun i => weight ids x i * big i [] p) = ids.map fun _ => (0 : Int) := by simp [big]
    rw [e, sum_zero]; rfl
  | c :: l, p, h => by
    have hl : p + 1 + l.length ≤ ids.length := by simp at h; omega
    have ih := moment_big ids x hf l (p + 1) hl
    have hm : moment ids x ids p % R = x ^ p % R := by
      have := List.all_eq_true.1 hf p (List.mem_range.2 (by simp at h; omega))
      exact of_decide_eq_true this
    have e : ∀ k : List Int, (k.map fun i => weight ids x i * big i (c :: l) p).sum = c * moment ids x k p + (k.map fun i => weight ids x i * big i l (p + 1)).sum := by
      intro k
      induction k with
      | nil => simp [moment]
      | cons a k ihk =>
        simp only [List.map_cons, List.sum_cons]
        rw [ihk]
        unfold moment
        simp only [List.map_cons, List.sum_cons, big]
        rw [Int.mul_add, Int.mul_add]
        have : weight ids x a * (c * a ^ p) = c * (weight ids x a * a ^ p) := by rw [← Int.mul_assoc, Int.mul_comm (weight ids x a) c, Int.mul_assoc]
        omega
    rw [e ids]
    show _ = (c * x ^ p + big x l (p + 1)) % R
    rw [Int.add_emod, Int.mul_emod, hm, ← Int.mul_emod, ih, ← Int.add_emod]
/-- What Join counts. -/
def join (ids : List Int) (x : Int) (X : Int → Int) : Int := ids.foldl (fun o i => add R o (mul R (X i) (weight ids x i))) 0
theorem join_sum (w X : Int → Int) : ∀ (l : List Int) (o : Int), l.foldl (fun o i => add R o (mul R (X i % R) (w i))) (o % R) = (o + (l.map fun i => w i * X i).sum) % R
  | [], o => by simp
  | a :: l, o => by
    have e1 : add R (o % R) (mul R (X a % R) (w a)) = (o + w a * X a) % R := by
      unfold add mul
      rw [Int.emod_add_emod, Int.add_emod_emod, Int.add_emod, Int.mul_emod, Int.emod_emod, ← Int.mul_emod, ← Int.add_emod, Int.mul_comm]
    show l.foldl _ (add R (o % R) (mul R (X a % R) (w a))) = _
    rw [e1, join_sum w X l (o + w a * X a)]
    simp only [List.map_cons, List.sum_cons]
    rw [Int.add_assoc]
/-- Enough shares make the polynomial's value. -/
theorem join_ev {ids poly : List Int} {x : Int} (hf : fine ids x = true) (hl : poly.length ≤ ids.length) : join ids x (ev poly) = ev poly x := by
  unfold join
  have h1 := join_sum (weight ids x) (fun i => big i poly 0) ids 0
  have e : (fun (o i : Int) => add R o (mul R (ev poly i) (weight ids x i))) = fun o i => add R o (mul R (big i poly 0 % R) (weight ids x i)) := by
    funext o i
    rw [ev_big]
  rw [e]
  rw [show (0 : Int) % R = 0 from rfl, Int.zero_add] at h1
  rw [h1, moment_big ids x hf poly 0 (by omega), ← ev_big]
theorem ev_zero (c : Int) (l : List Int) (h0 : 0 ≤ c) (h1 : c < R) : ev (c :: l) 0 = c := by
  rw [ev_big]
  have e : ∀ (l : List Int) (p : Nat), big 0 l (p + 1) = 0 := by
    intro l
    induction l with
    | nil => intro p; rfl
    | cons a l ih => intro p; unfold big; rw [ih, Int.zero_pow (by omega), Int.mul_zero]; rfl
  unfold big
  rw [e, Int.pow_zero, Int.mul_one, Int.add_zero]
  exact Int.emod_eq_of_lt h0 h1
/-! ### The Ids of a crew -/
def subs : List Int → List (List Int)
  | [] => [[]]
  | a :: l => subs l ++ (subs l).map (a :: ·)
theorem subs_of {k l : List Int} (h : k.Sublist l) : k ∈ subs l := by
  induction h with
  | slnil => simp [subs]
  | cons a _ ih => unfold subs; exact List.mem_append_left _ ih
  | cons_cons a _ ih => unfold subs; exact List.mem_append_right _ (List.mem_map.2 ⟨_, ih, rfl⟩)
def invs (ids : List Int) : Bool := ids.all fun i => decide (mul R (invN (above ids i i)) (above ids i i) = 1)
def crewIds : List Int := [1, 2, 3, 4, 5, 6, 7]
theorem fine_all : ((subs crewIds).all fun ids => ids.isEmpty || (fine ids 0 && invs ids)) = true := by decide +kernel
theorem fine_more : ((List.range 7).all fun t => ((List.range 7).all fun j => decide (j < t + 1) || fine (crewIds.take (t + 1)) ((j : Int) + 1))) = true := by decide +kernel
end Gm
end Go.Proofs.YtlaidjgdipacgaaGreatDoor
end
