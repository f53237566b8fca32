/-
  The plain mathematics of numbers modulo P = 2^61 - 1: no program in sight.
-/
namespace Go.Proofs.YtfdchdnkblmijaaGreatDoor.Fm

def P : Int := 2305843009213693951
theorem P_eq : P = 2305843009213693951 := rfl
theorem P_pos : 0 < P := by unfold P; omega

def add (a b : Int) : Int := (a + b) % P
def sub (a b : Int) : Int := (a - b) % P
def mul (a b : Int) : Int := (a * b) % P
def pow (a : Int) (n : Nat) : Int := (a ^ n) % P

theorem rng (x : Int) : 0 ≤ x % P ∧ x % P < P := ⟨Int.emod_nonneg _ (by unfold P; omega), Int.emod_lt_of_pos _ P_pos⟩
theorem add_rng (a b : Int) : 0 ≤ add a b ∧ add a b < P := rng _
theorem sub_rng (a b : Int) : 0 ≤ sub a b ∧ sub a b < P := rng _
theorem mul_rng (a b : Int) : 0 ≤ mul a b ∧ mul a b < P := rng _
theorem pow_rng (a : Int) (n : Nat) : 0 ≤ pow a n ∧ pow a n < P := rng _

theorem fold_law (hi lo : Int) (h0 : 0 ≤ hi) (h1 : hi < 288230376151711744) (l0 : 0 ≤ lo) (l1 : lo < 18446744073709551616) :
    let n := lo % 2305843009213693952 + (hi * 8 + lo / 2305843009213693952)
    let m := n % 2305843009213693952 + n / 2305843009213693952
    (if 2305843009213693951 ≤ m then m - 2305843009213693951 else m) = (hi * 18446744073709551616 + lo) % P := by
  intro n m
  unfold P
  split <;> omega

theorem mod_of (x k y : Int) (h : x = P * k + y) (h0 : 0 ≤ y) (h1 : y < P) : x % P = y := by
  subst h; rw [Int.add_comm, Int.add_mul_emod_self_left]; exact Int.emod_eq_of_lt h0 h1

theorem mod_small (x : Int) (h0 : 0 ≤ x) (h1 : x < P) : x % P = x := Int.emod_eq_of_lt h0 h1

theorem mul_emod_l (a b : Int) : mul (a % P) b = mul a b := by unfold mul; rw [Int.mul_emod, Int.emod_emod, ← Int.mul_emod]
theorem mul_emod_r (a b : Int) : mul a (b % P) = mul a b := by unfold mul; rw [Int.mul_emod, Int.emod_emod, ← Int.mul_emod]
theorem add_emod_l (a b : Int) : add (a % P) b = add a b := by unfold add; rw [Int.emod_add_emod]
theorem add_emod_r (a b : Int) : add a (b % P) = add a b := by unfold add; rw [Int.add_emod_emod]
theorem sub_emod_l (a b : Int) : sub (a % P) b = sub a b := by unfold sub; rw [Int.emod_sub_emod]
theorem sub_emod_r (a b : Int) : sub a (b % P) = sub a b := by unfold sub; rw [Int.sub_emod_emod]
theorem pow_emod (a : Int) (n : Nat) : pow (a % P) n = pow a n := by
  unfold pow
  induction n with
  | zero => rw [Int.pow_zero, Int.pow_zero]
  | succ n ih => rw [Int.pow_succ, Int.mul_emod, ih, Int.emod_emod, ← Int.mul_emod, ← Int.pow_succ]

theorem pow_zero (a : Int) : pow a 0 = 1 := by unfold pow P; simp
theorem pow_one (a : Int) : pow a 1 = a % P := by unfold pow; rw [Int.pow_succ, Int.pow_zero, Int.one_mul]
theorem pow_add (a : Int) (m n : Nat) : mul (pow a m) (pow a n) = pow a (m + n) := by
  unfold mul pow; rw [← Int.mul_emod, Int.pow_add]
theorem pow_succ (a : Int) (m : Nat) : mul (pow a m) a = pow a (m + 1) := by
  rw [← pow_add a m 1, pow_one, mul_emod_r]
theorem pow_sq (a : Int) (m : Nat) : mul (pow a m) (pow a m) = pow a (2 * m) := by rw [pow_add]; congr 1; omega
theorem pow_bits (a : Int) (n k : Nat) :
    pow a (n / 2 ^ k) = if n / 2 ^ k % 2 = 1 then mul (mul (pow a (n / 2 ^ (k + 1))) (pow a (n / 2 ^ (k + 1)))) a else mul (pow a (n / 2 ^ (k + 1))) (pow a (n / 2 ^ (k + 1))) := by
  rw [Nat.pow_succ, ← Nat.div_div_eq_div_mul]
  generalize n / 2 ^ k = m
  rw [pow_sq, pow_succ]
  split
  · congr 1; omega
  · congr 1; omega
/-- From the lowest bit on. -/
theorem pow_low (a : Int) (n : Nat) : pow a n = if n % 2 = 1 then mul a (pow (mul a a) (n / 2)) else pow (mul a a) (n / 2) := by
  have e : pow (mul a a) (n / 2) = pow a (2 * (n / 2)) := by
    unfold mul; rw [pow_emod]; unfold pow; rw [show a * a = a ^ 2 by rw [Int.pow_succ, Int.pow_succ, Int.pow_zero, Int.one_mul], ← Int.pow_mul]
  rw [e]
  split
  · have : mul a (pow a (2 * (n / 2))) = mul (pow a (2 * (n / 2))) a := by unfold mul; rw [Int.mul_comm]
    rw [this, pow_succ]; congr 1; omega
  · congr 1; omega

theorem mul_comm (a b : Int) : mul a b = mul b a := by unfold mul; rw [Int.mul_comm]
theorem add_comm (a b : Int) : add a b = add b a := by unfold add; rw [Int.add_comm]
theorem mul_assoc (a b c : Int) : mul (mul a b) c = mul a (mul b c) := by
  show mul (a * b % P) c = mul a (b * c % P)
  rw [mul_emod_l, mul_emod_r]; unfold mul; rw [Int.mul_assoc]
theorem add_assoc (a b c : Int) : add (add a b) c = add a (add b c) := by
  show add ((a + b) % P) c = add a ((b + c) % P)
  rw [add_emod_l, add_emod_r]; unfold add; rw [Int.add_assoc]
theorem mul_add (a b c : Int) : mul a (add b c) = add (mul a b) (mul a c) := by
  show mul a ((b + c) % P) = add (a * b % P) (a * c % P)
  rw [mul_emod_r, add_emod_l, add_emod_r]; unfold mul add; rw [Int.mul_add]
theorem mul_sub (a b c : Int) : mul a (sub b c) = sub (mul a b) (mul a c) := by
  show mul a ((b - c) % P) = sub (a * b % P) (a * c % P)
  rw [mul_emod_r, sub_emod_l, sub_emod_r]; unfold mul sub; rw [Int.mul_sub]

theorem mul_pow (a b : Int) (n : Nat) : pow (mul a b) n = mul (pow a n) (pow b n) := by
  have e : (a * b) ^ n = a ^ n * b ^ n := by
    induction n with
    | zero => rw [Int.pow_zero, Int.pow_zero, Int.pow_zero]; rfl
    | succ n ih => rw [Int.pow_succ, Int.pow_succ, Int.pow_succ, ih]; grind
  show pow (a * b % P) n = _
  rw [pow_emod]; unfold pow mul; rw [e, ← Int.mul_emod]
/-- A polynomial's value. -/
def eval (l : List Int) (x : Int) : Int := l.foldr (fun c o => add (mul o x) c) 0
theorem eval_rng (l : List Int) (x : Int) : 0 ≤ eval l x ∧ eval l x < P := by
  cases l with
  | nil => exact ⟨by simp [eval], by simp [eval]; exact P_pos⟩
  | cons c t => exact add_rng _ _
theorem eval_cons (c : Int) (t : List Int) (x : Int) : eval (c :: t) x = add (mul (eval t x) x) c := rfl
theorem eval_nil (x : Int) : eval [] x = 0 := rfl
theorem eval_step (o u c x e : Int) : add (add o (mul c u)) (mul (mul u x) e) = add o (mul u (add (mul e x) c)) := by
  rw [add_assoc]; congr 1
  rw [mul_add, mul_comm c u, add_comm, mul_assoc, mul_comm x e]
end Go.Proofs.YtfdchdnkblmijaaGreatDoor.Fm
