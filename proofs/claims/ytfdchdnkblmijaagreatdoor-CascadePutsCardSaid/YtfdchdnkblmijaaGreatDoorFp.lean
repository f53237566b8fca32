/-
  P = 2^61 - 1 is prime; inverses modulo P.
-/
import Derived.Test.YtfdchdnkblmijaaGreatDoorFm
import Derived.Test.YtfdchdnkblmijaaGreatDoorPr
namespace Go.Proofs.YtfdchdnkblmijaaGreatDoor.Fm
open Go.Proofs.YtfdchdnkblmijaaGreatDoor.Pr

def PN : Nat := 2305843009213693951
theorem P_cast : P = (PN : Int) := rfl

theorem pw (e : Nat) (he : e < 2 ^ 61) : 37 ^ e % PN = powmod PN 61 37 e := (powmod_eq PN 61 37 e he).symm

theorem PN_prime : IsPrime PN := by
  refine prime_of_root (n := PN) (g := 37) [2, 3, 3, 5, 5, 7, 11, 13, 31, 41, 61, 151, 331, 1321] (by unfold PN; omega) ?_ (by decide +kernel) ?_ ?_
  · intro q hq
    refine small_prime ?_ ?_
    · revert q; decide +kernel
    · revert q; decide +kernel
  · rw [pw _ (by unfold PN; omega)]; decide +kernel
  · intro q hq
    have hlt : (PN - 1) / q < 2 ^ 61 := Nat.lt_of_le_of_lt (Nat.div_le_self _ _) (by unfold PN; omega)
    rw [pw _ hlt]
    clear hlt
    revert q; decide +kernel


def e2 : Nat := PN - 2
theorem e2_eq : e2 = 2305843009213693949 := rfl
theorem e2_succ : e2 + 1 = PN - 1 := rfl
/-- What times a number is 1; 0 of 0. -/
def inv (a : Int) : Int := pow a e2
theorem inv_rng (a : Int) : 0 ≤ inv a ∧ inv a < P := pow_rng _ _

theorem pow_nat (n k : Nat) : pow (n : Int) k = ((n ^ k % PN : Nat) : Int) := by
  unfold pow; rw [P_cast, Int.natCast_emod, Int.natCast_pow]

theorem fermat_int (a : Int) (ha : a % P ≠ 0) : pow a (PN - 1) = 1 := by
  have hr := rng a
  rw [← pow_emod]
  obtain ⟨n, hn⟩ := Int.eq_ofNat_of_zero_le hr.1
  rw [hn, pow_nat]
  have hlt : n < PN := by have := hr.2; rw [hn, P_cast] at this; exact Int.ofNat_lt.1 this
  have h0 : n % PN ≠ 0 := by rw [Nat.mod_eq_of_lt hlt]; intro h0; apply ha; rw [hn, h0]; rfl
  rw [fermat PN_prime h0]; rfl

theorem mul_inv (a : Int) (ha : a % P ≠ 0) : mul a (inv a) = 1 := by
  rw [mul_comm, inv, pow_succ, e2_succ, fermat_int a ha]

theorem one_mul (a : Int) : mul 1 a = a % P := by unfold mul; rw [Int.one_mul]
theorem mul_one (a : Int) : mul a 1 = a % P := by unfold mul; rw [Int.mul_one]
theorem mul_zero (a : Int) : mul a 0 = 0 := by unfold mul; rw [Int.mul_zero]; rfl

theorem inv_unique (a x : Int) (h0 : 0 ≤ x) (h1 : x < P) (h : mul x a = 1) : x = inv a := by
  have ha : a % P ≠ 0 := by
    intro h0; rw [← mul_emod_r, h0, mul_zero] at h; exact absurd h (by decide)
  have h2 : mul x (mul a (inv a)) = inv a := by rw [← mul_assoc, h, one_mul, mod_small _ (inv_rng a).1 (inv_rng a).2]
  rw [mul_inv a ha, mul_one, mod_small _ h0 h1] at h2
  exact h2

theorem mul_eq_zero (a b : Int) : mul a b = 0 ↔ a % P = 0 ∨ b % P = 0 := by
  constructor
  · intro h
    by_cases ha : a % P = 0
    · exact .inl ha
    · right
      have h2 : mul (inv a) (mul a b) = b % P := by rw [← mul_assoc, mul_comm (inv a), mul_inv a ha, one_mul]
      rw [h, mul_zero] at h2; exact h2.symm
  · rintro (h | h)
    · rw [mul_comm, ← mul_emod_r, h, mul_zero]
    · rw [← mul_emod_r, h, mul_zero]

/-- A step of the greatest common part: what a is taken of in it goes on. -/
theorem euclid_step (a r s x y q : Int) (hx : mul x a = r % P) (hy : mul y a = s % P) : mul (sub x (mul q y)) a = (r - q * s) % P := by
  rw [mul_comm, mul_sub, mul_comm a x, hx, show mul a (mul q y) = mul q (mul y a) by rw [mul_comm a, mul_assoc], hy]
  rw [sub_emod_l]
  rw [mul_emod_r]; unfold sub mul; rw [Int.sub_emod_emod]

theorem gcd_step (r s : Int) (h0 : 0 ≤ r) (h1 : 0 < s) : Int.gcd s (r - r / s * s) = Int.gcd r s := by
  have : r - r / s * s = r % s := by rw [Int.emod_def, Int.mul_comm]
  rw [this]
  obtain ⟨n, rfl⟩ := Int.eq_ofNat_of_zero_le h0
  obtain ⟨m, rfl⟩ := Int.eq_ofNat_of_zero_le (show 0 ≤ s by omega)
  rw [← Int.natCast_emod]
  show Nat.gcd m (n % m) = Nat.gcd n m
  rw [Nat.gcd_comm n m, Nat.gcd_rec m n, Nat.gcd_comm]
theorem gcd_start (a : Int) (ha : a % P ≠ 0) : Int.gcd P (a % P) = 1 := by
  have hr := rng a
  obtain ⟨n, hn⟩ := Int.eq_ofNat_of_zero_le hr.1
  have hlt : n < PN := by have := hr.2; rw [hn, P_cast] at this; exact Int.ofNat_lt.1 this
  rw [hn, P_cast, Int.gcd_comm]
  have h0 : n % PN ≠ 0 := by rw [Nat.mod_eq_of_lt hlt]; intro h0; apply ha; rw [hn, h0]; rfl
  exact coprime_of PN_prime h0

end Go.Proofs.YtfdchdnkblmijaaGreatDoor.Fm
