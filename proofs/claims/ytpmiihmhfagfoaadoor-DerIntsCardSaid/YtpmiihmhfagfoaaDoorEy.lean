/-
  Plain Lean: more of a number's bytes: unlike numbers, the sign, a byte more ahead.
-/
import Derived.Test.YtpmiihmhfagfoaaDoorEz
namespace Go.Proofs.YtpmiihmhfagfoaaDoor

theorem foldI_range : ∀ (r : List Int) (q : Int), (∀ b ∈ r, byte b) → q * 256 ^ r.length ≤ foldI q r ∧ foldI q r < (q + 1) * 256 ^ r.length
  | [], q, _ => by simp [foldI]; omega
  | b :: r, q, hb => by
    have hb0 := hb b (by simp)
    unfold byte at hb0
    have h := foldI_range r (256 * q + b) (fun z hz => hb z (by simp [hz]))
    have hp : (0 : Int) < 256 ^ r.length := Int.pow_pos (by decide)
    have e : (256 : Int) ^ (b :: r).length = 256 * 256 ^ r.length := by rw [List.length_cons, Int.pow_succ, Int.mul_comm]
    show q * 256 ^ (b :: r).length ≤ foldI (256 * q + b) r ∧ foldI (256 * q + b) r < (q + 1) * 256 ^ (b :: r).length
    rw [e]
    generalize (256 : Int) ^ r.length = P at *
    have h1 : (256 * q + b) * P = 256 * (q * P) + b * P := by rw [Int.add_mul, Int.mul_assoc]
    have h2 : (256 * q + b + 1) * P = 256 * (q * P) + b * P + P := by rw [Int.add_mul, h1, Int.one_mul]
    have h3 : q * (256 * P) = 256 * (q * P) := by rw [← Int.mul_assoc, Int.mul_comm q 256, Int.mul_assoc]
    have h4 : (q + 1) * (256 * P) = 256 * (q * P) + 256 * P := by rw [Int.add_mul, h3, Int.one_mul]
    have h5 : 0 ≤ b * P := Int.mul_nonneg hb0.1 (Int.le_of_lt hp)
    have h6 : b * P ≤ 255 * P := Int.mul_le_mul_of_nonneg_right hb0.2 (Int.le_of_lt hp)
    rw [h1, h2] at h
    rw [h3, h4]
    omega
theorem numI_sign {x : Int} {r : List Int} (hx : byte x) (hr : ∀ b ∈ r, byte b) : numI (x :: r) < 0 ↔ 128 ≤ x := by
  have h := foldI_range r (signI x) hr
  have hp : (0 : Int) < 256 ^ r.length := Int.pow_pos (by decide)
  unfold byte at hx
  show foldI (signI x) r < 0 ↔ 128 ≤ x
  by_cases h128 : x < 128
  · have hs : signI x = x := by unfold signI; rw [if_pos h128]
    rw [hs] at h ⊢
    have : 0 ≤ x * 256 ^ r.length := Int.mul_nonneg hx.1 (Int.le_of_lt hp)
    constructor <;> intro h9 <;> omega
  · have hs : signI x = x - 256 := by unfold signI; rw [if_neg h128]
    rw [hs] at h ⊢
    have h2 : (x - 256 + 1) * 256 ^ r.length ≤ 0 := Int.mul_nonpos_of_nonpos_of_nonneg (by omega) (Int.le_of_lt hp)
    constructor <;> intro h9 <;> omega
theorem intB_inj {a b : Int} (ha : -9223372036854775808 ≤ a ∧ a ≤ 9223372036854775807) (hb : -9223372036854775808 ≤ b ∧ b ≤ 9223372036854775807) (h : intB a = intB b) : a = b := by
  rw [← numI_intB a ha.1 ha.2, h, numI_intB b hb.1 hb.2]
/-- As few as hold it: the lowest bits but the first nine are not all. -/
theorem low_not (a : Int) (h1 : -9223372036854775808 ≤ a) (h2 : a ≤ 9223372036854775807) (hl : 1 < (intB a).length) : a / 2 ^ (8 * (intB a).length - 9) ≠ 0 ∧ a / 2 ^ (8 * (intB a).length - 9) ≠ -1 := by
  have hn := numI_intB a h1 h2
  have hls := least_intB a h1 h2
  have hby := intB_byte a h1 h2
  match hB : intB a, hl with
  | x :: y :: r, _ =>
    rw [hB] at hn hls hby
    have hx := hby x (by simp); have hy := hby y (by simp)
    unfold byte at hx hy
    have h := foldI_range r (256 * signI x + y) (fun z hz => hby z (by simp [hz]))
    have hf : foldI (256 * signI x + y) r = a := hn
    rw [hf] at h
    have hp : (0 : Int) < 256 ^ r.length := Int.pow_pos (by decide)
    have he : (2 : Int) ^ (8 * (x :: y :: r).length - 9) = 128 * 256 ^ r.length := by
      rw [show 8 * (x :: y :: r).length - 9 = 7 + 8 * r.length by simp; omega, Int.pow_add, Int.pow_mul]; rfl
    rw [he, ← Int.ediv_ediv_of_nonneg (show (0 : Int) ≤ 128 by decide), Int.ediv_ediv_of_nonneg (show (0 : Int) ≤ 128 by decide), Int.mul_comm, ← Int.ediv_ediv_of_nonneg (Int.le_of_lt hp)]
    have hq : a / 256 ^ r.length = 256 * signI x + y := by
      generalize (256 : Int) ^ r.length = P at *
      have e := Int.mul_ediv_add_emod a P
      have m0 := Int.emod_nonneg a (show P ≠ 0 by omega)
      have m1 := Int.emod_lt_of_pos a hp
      generalize a / P = q at *
      generalize a % P = m at *
      have l1 : q < 256 * signI x + y + 1 := by
        apply Int.lt_of_mul_lt_mul_right (a := P) _ (Int.le_of_lt hp)
        rw [Int.mul_comm q P]; omega
      have l2 : 256 * signI x + y < q + 1 := by
        apply Int.lt_of_mul_lt_mul_right (a := P) _ (Int.le_of_lt hp)
        rw [Int.add_mul q 1 P, Int.mul_comm q P]; omega
      omega
    rw [hq]
    have hlst : decide (r.length ≤ 6) && !decide (x = if y < 128 then 0 else 255) := hls
    simp only [Bool.and_eq_true, Bool.not_eq_true', decide_eq_true_eq, decide_eq_false_iff_not] at hlst
    have hne := hlst.2
    unfold signI
    by_cases h128 : x < 128
    · rw [if_pos h128]
      by_cases hy1 : y < 128
      · rw [if_pos hy1] at hne; constructor <;> omega
      · rw [if_neg hy1] at hne; constructor <;> omega
    · rw [if_neg h128]
      by_cases hy1 : y < 128
      · rw [if_pos hy1] at hne; constructor <;> omega
      · rw [if_neg hy1] at hne; constructor <;> omega
/-- With a byte more ahead it is none. -/
theorem more_not (a p : Int) (h1 : -9223372036854775808 ≤ a) (h2 : a ≤ 9223372036854775807) (hp : p = if a < 0 then 255 else 0) : Dm.least (p :: intB a) = false := by
  have hn := numI_intB a h1 h2
  have hby := intB_byte a h1 h2
  match hB : intB a with
  | [] => have := least_intB a h1 h2; rw [hB] at this; cases this
  | x :: r =>
    rw [hB] at hn hby
    have hs := numI_sign (hby x (by simp)) (fun z hz => hby z (List.mem_cons_of_mem _ hz))
    rw [hn] at hs
    show (decide (r.length ≤ 6) && !decide (p = if x < 128 then 0 else 255)) = false
    have : p = if x < 128 then 0 else 255 := by
      rw [hp]
      by_cases h : a < 0
      · rw [if_pos h, if_neg (by have := hs.1 h; omega)]
      · rw [if_neg h, if_pos (by by_cases h9 : x < 128; exact h9; exact absurd (hs.2 (by omega)) h)]
    rw [decide_eq_true this]; simp
theorem int_may (a : Int) (h1 : -9223372036854775808 ≤ a) (h2 : a ≤ 9223372036854775807) : Dm.may 8 (.mk 2 (intB a) []) = true := by
  rw [Dm.may_form, form_eq]
  show ((decide ((2 : Int) = 48) || true) && Dm.least (intB a) && true && decide (1 ≤ 8)) = true
  rw [least_intB a h1 h2]; rfl
theorem more_may (a p : Int) (h1 : -9223372036854775808 ≤ a) (h2 : a ≤ 9223372036854775807) (hp : p = if a < 0 then 255 else 0) : Dm.may 8 (.mk 2 (p :: intB a) []) = false := by
  rw [Dm.may_form, form_eq]
  show ((decide ((2 : Int) = 48) || true) && Dm.least (p :: intB a) && true && decide (1 ≤ 8)) = false
  rw [more_not a p h1 h2 hp]; rfl
end Go.Proofs.YtpmiihmhfagfoaaDoor
