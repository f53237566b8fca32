/-
  Plain arithmetic: primes, Fermat's little theorem, and a test by a primitive root: no program in sight.
-/
namespace Go.Proofs.YtfdchdnkblmijaaGreatDoor.Pr

def IsPrime (p : Nat) : Prop := 1 < p ∧ ∀ d, d ∣ p → d = 1 ∨ d = p

theorem coprime_of {p a : Nat} (hp : IsPrime p) (ha : a % p ≠ 0) : Nat.Coprime a p := by
  rcases hp.2 _ (Nat.gcd_dvd_right a p) with h | h
  · exact h
  · exact absurd (Nat.mod_eq_zero_of_dvd (h ▸ Nat.gcd_dvd_left a p)) ha

theorem perm_of {l1 l2 : List Nat} (hn : l1.Nodup) (hs : ∀ x ∈ l1, x ∈ l2) (hl : l2.length ≤ l1.length) : l1.Perm l2 := by
  induction l1 generalizing l2 with
  | nil => simp at hl; subst hl; exact .nil
  | cons x t ih =>
    rw [List.nodup_cons] at hn
    have hx : x ∈ l2 := hs x (by simp)
    have h1 := List.perm_cons_erase hx
    refine .trans (.cons x (ih hn.2 ?_ ?_)) h1.symm
    · intro y hy
      exact (List.mem_erase_of_ne (by rintro rfl; exact hn.1 hy)).2 (hs y (by simp [hy]))
    · have := h1.length_eq; simp at this hl ⊢; omega

def prod : List Nat → Nat
  | [] => 1
  | x :: t => x * prod t

theorem prod_perm {l1 l2 : List Nat} (h : l1.Perm l2) : prod l1 = prod l2 := by
  induction h with
  | nil => rfl
  | cons x _ ih => simp [prod, ih]
  | swap x y l => simp [prod, Nat.mul_left_comm]
  | trans _ _ h1 h2 => exact h1.trans h2

theorem prod_scaled (a p : Nat) (l : List Nat) : prod (l.map fun i => a * i % p) % p = a ^ l.length * prod l % p := by
  induction l with
  | nil => simp [prod]
  | cons x t ih =>
    simp only [List.map_cons, prod, List.length_cons]
    rw [Nat.mul_mod, ih, ← Nat.mul_mod, Nat.mod_mul_mod, Nat.pow_succ]
    congr 1; ac_rfl

theorem prod_coprime {p : Nat} (l : List Nat) (h : ∀ x ∈ l, Nat.Coprime x p) : Nat.Coprime (prod l) p := by
  induction l with
  | nil => simp [prod]
  | cons x t ih => exact Nat.Coprime.mul_left (h x (by simp)) (ih fun y hy => h y (by simp [hy]))

theorem dvd_sub_of_mod {p x y : Nat} (h : x % p = y % p) : p ∣ y - x := by
  have := Nat.sub_mod_eq_zero_of_mod_eq h.symm
  exact Nat.dvd_of_mod_eq_zero this
theorem mod_of_dvd_sub {p x y : Nat} (hxy : x ≤ y) (h : p ∣ y - x) : x % p = y % p := by
  obtain ⟨k, hk⟩ := h
  have : y = x + p * k := by omega
  rw [this, Nat.add_mul_mod_self_left]

/-- Of numbers below p what cancels. -/
theorem cancel {p a x y : Nat} (hc : Nat.Coprime a p) (h : a * x % p = a * y % p) : x % p = y % p := by
  rcases Nat.le_total x y with hxy | hxy
  · have h1 : p ∣ a * (y - x) := by
      rw [Nat.mul_sub]; exact dvd_sub_of_mod h
    have h2 := (Nat.Coprime.dvd_of_dvd_mul_left hc.symm h1)
    exact mod_of_dvd_sub hxy h2
  · have h1 : p ∣ a * (x - y) := by
      rw [Nat.mul_sub]; exact dvd_sub_of_mod h.symm
    have h2 := (Nat.Coprime.dvd_of_dvd_mul_left hc.symm h1)
    exact (mod_of_dvd_sub hxy h2).symm

theorem fermat {p a : Nat} (hp : IsPrime p) (ha : a % p ≠ 0) : a ^ (p - 1) % p = 1 := by
  have h1p := hp.1
  have hc := coprime_of hp ha
  let l := List.range' 1 (p - 1)
  have hl : ∀ x ∈ l, 0 < x ∧ x < p := by
    intro x hx; simp [l, List.mem_range'_1] at hx; omega
  have hperm : (l.map fun i => a * i % p).Perm l := by
    apply perm_of
    · rw [List.nodup_iff_pairwise_ne, List.pairwise_map]
      refine List.Pairwise.imp_of_mem ?_ (List.nodup_iff_pairwise_ne.1 (List.nodup_range' (s := 1) (n := p - 1)))
      intro x y hx hy hne heq
      have := cancel hc heq
      rw [Nat.mod_eq_of_lt (hl x hx).2, Nat.mod_eq_of_lt (hl y hy).2] at this
      exact hne this
    · intro y hy
      rw [List.mem_map] at hy
      obtain ⟨x, hx, rfl⟩ := hy
      have hx' := hl x hx
      have h2 : a * x % p < p := Nat.mod_lt _ (by omega)
      have h3 : a * x % p ≠ 0 := by
        intro h0
        have := Nat.Coprime.dvd_of_dvd_mul_left hc.symm (Nat.dvd_of_mod_eq_zero h0)
        exact absurd (Nat.le_of_dvd hx'.1 this) (by omega)
      simp [l, List.mem_range'_1]; omega
    · simp
  have hprod := prod_scaled a p l
  rw [prod_perm hperm] at hprod
  have hcp : Nat.Coprime (prod l) p := prod_coprime l fun x hx => coprime_of hp (by rw [Nat.mod_eq_of_lt (hl x hx).2]; have := (hl x hx).1; omega)
  have hlen : l.length = p - 1 := by simp [l]
  rw [hlen] at hprod
  have := cancel hcp (x := 1) (y := a ^ (p - 1)) (by rw [Nat.mul_one, Nat.mul_comm, hprod, Nat.mul_comm])
  rw [← this, Nat.mod_eq_of_lt h1p]

/-- Powers that are 1: of the greatest common part of two exponents too. -/
theorem pow_gcd (m n p g : Nat) (hm : g ^ m % p = 1) (hn : g ^ n % p = 1) : g ^ (Nat.gcd m n) % p = 1 := by
  induction m, n using Nat.gcd.induction with
  | H0 n => simpa using hn
  | H1 m n hpos ih =>
    rw [Nat.gcd_rec]
    apply ih _ hm
    have h2 : g ^ n % p = g ^ (n % m) % p := by
      conv => lhs; rw [← Nat.div_add_mod n m, Nat.pow_add, Nat.pow_mul]
      rw [Nat.mul_mod, Nat.pow_mod, hm]
      simp
    rw [← h2, hn]

theorem exists_prime : ∀ n : Nat, 1 < n → ∃ q, IsPrime q ∧ q ∣ n := by
  intro n
  induction n using Nat.strongRecOn with
  | ind n ih =>
    intro hn
    by_cases hp : IsPrime n
    · exact ⟨n, hp, Nat.dvd_refl n⟩
    · have : ∃ d, d ∣ n ∧ d ≠ 1 ∧ d ≠ n := by
        apply Classical.byContradiction
        intro hc
        apply hp
        refine ⟨hn, fun d hd => ?_⟩
        by_cases h1 : d = 1
        · exact .inl h1
        · by_cases h2 : d = n
          · exact .inr h2
          · exact absurd ⟨d, hd, h1, h2⟩ hc
      obtain ⟨d, hd, h1, h2⟩ := this
      have hle := Nat.le_of_dvd (by omega) hd
      have hd0 : d ≠ 0 := by rintro rfl; simp at hd; omega
      obtain ⟨q, hq, hqd⟩ := ih d (by omega) (by omega)
      exact ⟨q, hq, Nat.dvd_trans hqd hd⟩

theorem prime_dvd_mul {p a b : Nat} (hp : IsPrime p) (h : p ∣ a * b) : p ∣ a ∨ p ∣ b := by
  by_cases ha : a % p = 0
  · exact .inl (Nat.dvd_of_mod_eq_zero ha)
  · exact .inr (Nat.Coprime.dvd_of_dvd_mul_left (coprime_of hp ha).symm h)

theorem prime_dvd_prod {p : Nat} (hp : IsPrime p) (l : List Nat) (h : p ∣ prod l) : ∃ x ∈ l, p ∣ x := by
  induction l with
  | nil => simp only [prod] at h; have := Nat.le_of_dvd (by omega) h; have := hp.1; omega
  | cons x t ih =>
    rcases prime_dvd_mul hp h with h | h
    · exact ⟨x, by simp, h⟩
    · obtain ⟨y, hy, hd⟩ := ih h; exact ⟨y, by simp [hy], hd⟩

/-- A number is prime if it has no divisor from 2 up to its root. -/
def small (n : Nat) : Bool := decide (1 < n) && (List.range 60).all fun i => decide (i < 2) || decide (n % i ≠ 0) || decide (n ≤ i)

theorem small_prime {n : Nat} (h : small n = true) (hb : n < 3600) : IsPrime n := by
  unfold small at h
  simp only [Bool.and_eq_true, decide_eq_true_eq, List.all_eq_true, List.mem_range, Bool.or_eq_true] at h
  obtain ⟨h1, h2⟩ := h
  refine ⟨h1, fun d hd => ?_⟩
  obtain ⟨k, hk⟩ := hd
  by_cases e1 : d = 1
  · exact .inl e1
  by_cases e2 : d = n
  · exact .inr e2
  exfalso
  have hd0 : d ≠ 0 := by rintro rfl; simp at hk; omega
  have hk0 : k ≠ 0 := by rintro rfl; simp at hk; omega
  have hk1 : k ≠ 1 := by rintro rfl; simp at hk; omega
  by_cases hd60 : d < 60
  · rcases h2 d hd60 with (h | h) | h
    · omega
    · exact h (by rw [hk]; exact Nat.mul_mod_right d k)
    · have : n ≥ d * 2 := by rw [hk]; exact Nat.mul_le_mul_left d (by omega)
      omega
  · have hk60 : k < 60 := by
      apply Nat.lt_of_not_le; intro hk60
      have : 60 * 60 ≤ d * k := Nat.mul_le_mul (by omega) hk60
      omega
    rcases h2 k hk60 with (h | h) | h
    · omega
    · exact h (by rw [hk]; exact Nat.mul_mod_left d k)
    · have : n ≥ 2 * k := by rw [hk]; exact Nat.mul_le_mul_right k (by omega)
      omega

/-- A NUMBER IS PRIME IF IT HAS A PRIMITIVE ROOT g: qs are primes whose product is n - 1. -/
theorem prime_of_root {n g : Nat} (qs : List Nat) (h1 : 1 < n) (hq : ∀ q ∈ qs, IsPrime q) (hprod : prod qs = n - 1)
    (hg : g ^ (n - 1) % n = 1) (hr : ∀ q ∈ qs, Nat.gcd (g ^ ((n - 1) / q) % n + (n - 1)) n = 1) : IsPrime n := by
  obtain ⟨p, hp, hpn⟩ := exists_prime n h1
  have hp1 := hp.1
  have hple := Nat.le_of_dvd (by omega) hpn
  have modp : ∀ x, x % n % p = x % p := fun x => Nat.mod_mod_of_dvd x hpn
  have hgp : g ^ (n - 1) % p = 1 := by rw [← modp, hg, Nat.mod_eq_of_lt hp1]
  have hga : g % p ≠ 0 := by
    intro h0
    have : g ^ (n - 1) % p = 0 := by
      rw [Nat.pow_mod, h0, Nat.zero_pow (by omega)]; simp
    omega
  have hf := fermat hp hga
  have hd := pow_gcd _ _ p g hgp hf
  generalize hdd : Nat.gcd (n - 1) (p - 1) = d at hd
  have hdn : d ∣ n - 1 := hdd ▸ Nat.gcd_dvd_left _ _
  have hdp : d ∣ p - 1 := hdd ▸ Nat.gcd_dvd_right _ _
  by_cases hlt : d = n - 1
  · have := Nat.le_of_dvd (by omega) hdp
    have hpe : p = n := by omega
    exact hpe ▸ hp
  · exfalso
    obtain ⟨k, hk⟩ := hdn
    have hk1 : 1 < k := by
      rcases Nat.lt_or_ge 1 k with h | h
      · exact h
      · have : k = 0 ∨ k = 1 := by omega
        rcases this with rfl | rfl
        · simp at hk; omega
        · simp at hk; omega
    obtain ⟨r, hr', hrk⟩ := exists_prime k hk1
    obtain ⟨q, hqm, hrq⟩ := prime_dvd_prod hr' qs (by rw [hprod, hk]; exact Nat.dvd_mul_left_of_dvd hrk d)
    have hrqe : r = q := by
      rcases (hq q hqm).2 r hrq with h | h
      · have := hr'.1; omega
      · exact h
    subst hrqe
    obtain ⟨j, hj⟩ := hrk
    have hr0 : 0 < r := by have := hr'.1; omega
    have hdiv : (n - 1) / r = d * j := by
      rw [hk, hj, show d * (r * j) = r * (d * j) by rw [Nat.mul_left_comm], Nat.mul_div_cancel_left _ hr0]
    have hone : g ^ ((n - 1) / r) % p = 1 := by
      rw [hdiv, Nat.pow_mul, Nat.pow_mod, hd]; simp; exact Nat.mod_eq_of_lt hp1
    have hg1 := hr r hqm
    have hpd : p ∣ g ^ ((n - 1) / r) % n + (n - 1) := by
      apply Nat.dvd_of_mod_eq_zero
      obtain ⟨c, hc⟩ := hpn
      rw [Nat.add_mod, modp, hone]
      rw [← Nat.add_mod_mod] 
      have : 1 % p + (n - 1) % p = 1 + (n - 1) % p := by rw [Nat.mod_eq_of_lt hp1]
      rw [Nat.add_mod_mod, Nat.add_mod_mod, show 1 + (n - 1) = n by omega, hc]
      exact Nat.mul_mod_right p c
    have := Nat.dvd_gcd hpd hpn
    rw [hg1] at this
    have := Nat.le_of_dvd (by omega) this
    omega

/-- Powers modulo, by squares: so that the kernel can reckon them. -/
def powmod (n : Nat) : Nat → Nat → Nat → Nat
  | 0, _, _ => 1 % n
  | f + 1, g, e => if e = 0 then 1 % n else if e % 2 = 1 then g * powmod n f (g * g % n) (e / 2) % n else powmod n f (g * g % n) (e / 2)

theorem powmod_eq (n f g e : Nat) (h : e < 2 ^ f) : powmod n f g e = g ^ e % n := by
  induction f generalizing g e with
  | zero => simp at h; subst h; simp [powmod]
  | succ f ih =>
    unfold powmod
    by_cases h0 : e = 0
    · subst h0; simp
    · rw [if_neg h0]
      have hlt : e / 2 < 2 ^ f := by rw [Nat.pow_succ] at h; omega
      rw [ih _ _ hlt]
      have key : g * g % n * 1 = g * g % n := Nat.mul_one _
      have e2 : (g * g % n) ^ (e / 2) % n = (g * g) ^ (e / 2) % n := by rw [← Nat.pow_mod]
      rw [e2, ← Nat.pow_two, ← Nat.pow_mul]
      split
      · rename_i ho
        rw [Nat.mul_mod_mod, ← Nat.pow_succ']
        congr 2; omega
      · congr 2; omega
end Go.Proofs.YtfdchdnkblmijaaGreatDoor.Pr
