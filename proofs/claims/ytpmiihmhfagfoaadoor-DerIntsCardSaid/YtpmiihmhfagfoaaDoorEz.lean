/-
  Plain Lean: the bytes of a number: the document's way and the program's tell the same; they are the number again.
-/
import Derived.Test.YtpmiihmhfagfoaaDoorEf
namespace Go.Proofs.YtpmiihmhfagfoaaDoor

/-- The lowest j bytes. -/
def lowB (n : Int) (j : Nat) : List Int := (be8 n).drop (8 - j)
def restI (n : Int) (j : Nat) : Int := n / 2 ^ (8 * j)
theorem be8_len (n : Int) : (be8 n).length = 8 := rfl
theorem lowB_len (n : Int) {j : Nat} (hj : j ≤ 8) : (lowB n j).length = j := by unfold lowB; rw [List.length_drop, be8_len]; omega
theorem lowB_all (n : Int) : lowB n 8 = be8 n := rfl
theorem lowB_succ (n : Int) {j : Nat} (hj : j < 8) : lowB n (j + 1) = (restI n j % 256) :: lowB n j := by
  unfold lowB restI
  rw [List.drop_eq_getElem_cons (by rw [be8_len]; omega), show 8 - (j + 1) + 1 = 8 - j by omega]
  congr 1
  have h := be8_at n (8 - (j + 1)) (by omega)
  rw [List.getElem?_eq_getElem (by rw [be8_len]; omega)] at h
  rw [show 56 - 8 * (8 - (j + 1)) = 8 * j by omega] at h
  exact h
theorem lowB_byte (n : Int) (j : Nat) : ∀ x ∈ lowB n j, byte x := by
  intro x hx
  have := List.mem_of_mem_drop hx
  simp only [be8, List.mem_map] at this
  obtain ⟨i, _, rfl⟩ := this
  unfold byte; omega
theorem restI_succ (n : Int) (j : Nat) : restI n (j + 1) = restI n j / 256 := by
  unfold restI
  rw [Int.ediv_ediv_of_nonneg (by exact Int.pow_nonneg (by decide)), show 8 * (j + 1) = 8 * j + 8 by omega, Int.pow_add]; rfl
theorem restI_zero (n : Int) : restI n 0 = n := by unfold restI; simp
theorem restI_eight (n : Int) (h1 : -9223372036854775808 ≤ n) (h2 : n ≤ 9223372036854775807) : restI n 8 = if n < 0 then -1 else 0 := by
  unfold restI
  rw [show (2 : Int) ^ (8 * 8) = 18446744073709551616 by decide]
  split <;> omega
/-- The rest is but the sign of what stands below. -/
def stopI (n : Int) (j : Nat) : Prop := restI n j = if (lowB n j).headD 0 < 128 then 0 else -1
theorem head_succ (n : Int) {j : Nat} (hj : j < 8) : (lowB n (j + 1)).headD 0 = restI n j % 256 := by rw [lowB_succ n hj]; rfl
theorem least_low (n : Int) {j : Nat} (h0 : 1 ≤ j) (hj : j < 8) : Dm.least (lowB n (j + 1)) = !decide (restI n j % 256 = if (lowB n j).headD 0 < 128 then 0 else 255) := by
  rw [lowB_succ n hj]
  have hl := lowB_len n (show j ≤ 8 by omega)
  cases hb : lowB n j with
  | nil => rw [hb] at hl; simp at hl; omega
  | cons y r =>
    rw [hb] at hl
    have : r.length ≤ 6 := by simp at hl; omega
    show (decide (r.length ≤ 6) && !decide (restI n j % 256 = if y < 128 then 0 else 255)) = _
    rw [decide_eq_true this, Bool.true_and]; rfl
theorem stop_step (n : Int) {j : Nat} (h0 : 1 ≤ j) (hj : j < 8) : stopI n j ↔ (Dm.least (lowB n (j + 1)) = false ∧ stopI n (j + 1)) := by
  rw [least_low n h0 hj]
  unfold stopI
  rw [head_succ n hj, restI_succ]
  have e : (!decide (restI n j % 256 = if (lowB n j).headD 0 < 128 then 0 else 255)) = false ↔ restI n j % 256 = if (lowB n j).headD 0 < 128 then 0 else 255 := by simp
  rw [e]
  generalize restI n j = q
  generalize (lowB n j).headD 0 = y
  by_cases hy : y < 128
  · rw [if_pos hy, if_pos hy]
    constructor
    · intro h; subst h; exact ⟨by decide, by decide⟩
    · rintro ⟨h1, h2⟩
      rw [h1, if_pos (by decide)] at h2
      omega
  · rw [if_neg hy, if_neg hy]
    constructor
    · intro h; subst h; exact ⟨by decide, by decide⟩
    · rintro ⟨h1, h2⟩
      rw [h1, if_neg (by decide)] at h2
      omega
theorem trim_low (n : Int) {j : Nat} (h0 : 1 ≤ j) (hj : j < 8) (h : Dm.least (lowB n (j + 1)) = false) : trimI (lowB n (j + 1)) = trimI (lowB n j) := by
  rw [trimI_step (by rw [lowB_len n (by omega)]; omega) h, lowB_succ n hj, List.drop_one, List.tail_cons]
theorem trim_down (n : Int) : ∀ (d j : Nat), d + j = 8 → 1 ≤ j → stopI n j → trimI (be8 n) = trimI (lowB n j)
  | 0, j, h, _, _ => by rw [show j = 8 by omega]; rfl
  | d + 1, j, h, h0, hs => by
    obtain ⟨h1, h2⟩ := (stop_step n h0 (by omega)).1 hs
    rw [trim_down n d (j + 1) (by omega) (by omega) h2, trim_low n h0 (by omega) h1]
theorem intB_low (n : Int) {j : Nat} (h0 : 1 ≤ j) (hj : j ≤ 8) (hs : stopI n j) (hn : j = 1 ∨ ¬ stopI n (j - 1)) : intB n = lowB n j := by
  unfold intB
  rw [trim_down n (8 - j) j (by omega) h0 hs]
  rcases hn with rfl | hn
  · exact trimI_stop (.inl (by rw [lowB_len n (by omega)]; exact Nat.le_refl _))
  · refine trimI_stop ?_
    by_cases h1 : j = 1
    · subst h1; exact .inl (by rw [lowB_len n (by omega)]; exact Nat.le_refl _)
    · refine .inr ?_
      obtain ⟨i, rfl⟩ : ∃ i, j = i + 1 := ⟨j - 1, by omega⟩
      cases hl : Dm.least (lowB n (i + 1)) with
      | true => rfl
      | false => exact absurd ((stop_step n (by omega) (by omega)).2 ⟨hl, hs⟩) hn
theorem stop_eight (n : Int) (h1 : -9223372036854775808 ≤ n) (h2 : n ≤ 9223372036854775807) : stopI n 8 := by
  unfold stopI
  rw [restI_eight n h1 h2, head_succ n (j := 7) (by omega)]
  have e : restI n 7 = n / 72057594037927936 := by unfold restI; rw [show (2 : Int) ^ (8 * 7) = 72057594037927936 by decide]
  rw [e]
  by_cases hn : n < 0
  · rw [if_pos hn, if_neg (by omega)]
  · rw [if_neg hn, if_pos (by omega)]
/-- It always stops somewhere. -/
theorem intB_some (n : Int) (h1 : -9223372036854775808 ≤ n) (h2 : n ≤ 9223372036854775807) : ∃ j, 1 ≤ j ∧ j ≤ 8 ∧ stopI n j ∧ (j = 1 ∨ ¬ stopI n (j - 1)) ∧ intB n = lowB n j := by
  have key : ∀ d j, d + j = 8 → 1 ≤ j → (j = 1 ∨ ¬ stopI n (j - 1)) → ∃ j, 1 ≤ j ∧ j ≤ 8 ∧ stopI n j ∧ (j = 1 ∨ ¬ stopI n (j - 1)) := by
    intro d
    induction d with
    | zero => intro j h h0 hn; exact ⟨j, h0, by omega, by rw [show j = 8 by omega]; exact stop_eight n h1 h2, hn⟩
    | succ d ih =>
      intro j h h0 hn
      by_cases hs : stopI n j
      · exact ⟨j, h0, by omega, hs, hn⟩
      · exact ih (j + 1) (by omega) (by omega) (.inr hs)
  obtain ⟨j, a, b, c, d⟩ := key 7 1 rfl (Nat.le_refl _) (.inl rfl)
  exact ⟨j, a, b, c, d, intB_low n a b c d⟩
theorem foldI_low (n : Int) : ∀ j, j ≤ 8 → ∀ s, foldI s (lowB n j) = s * 256 ^ j + (n - restI n j * 256 ^ j)
  | 0, _, s => by
    rw [show lowB n 0 = [] from List.drop_eq_nil_of_le (by rw [be8_len]; omega), restI_zero]
    simp [foldI]
  | j + 1, hj, s => by
    rw [lowB_succ n (by omega)]
    show foldI (256 * s + restI n j % 256) (lowB n j) = _
    rw [foldI_low n j (by omega), restI_succ, Int.pow_succ]
    have e : restI n j = 256 * (restI n j / 256) + restI n j % 256 := by omega
    generalize restI n j / 256 = q at *
    generalize restI n j % 256 = m at *
    rw [e]
    generalize (256 : Int) ^ j = P
    simp only [Int.mul_add, Int.mul_comm, Int.mul_left_comm]
    omega
theorem numI_low (n : Int) {j : Nat} (h0 : 1 ≤ j) (hj : j ≤ 8) (hs : stopI n j) : numI (lowB n j) = n := by
  obtain ⟨i, rfl⟩ : ∃ i, j = i + 1 := ⟨j - 1, by omega⟩
  unfold stopI at hs
  rw [head_succ n (by omega), restI_succ] at hs
  rw [lowB_succ n (by omega)]
  show foldI (signI (restI n i % 256)) (lowB n i) = n
  rw [foldI_low n i (by omega)]
  have e : signI (restI n i % 256) = restI n i := by
    unfold signI
    split at hs
    · next h => rw [if_pos h]; omega
    · next h => rw [if_neg h]; omega
  rw [e]; omega
/-- A number's bytes are the number again; they are as few as hold it. -/
theorem numI_intB (n : Int) (h1 : -9223372036854775808 ≤ n) (h2 : n ≤ 9223372036854775807) : numI (intB n) = n := by
  obtain ⟨j, a, b, c, _, e⟩ := intB_some n h1 h2
  rw [e]; exact numI_low n a b c
theorem least_intB (n : Int) (h1 : -9223372036854775808 ≤ n) (h2 : n ≤ 9223372036854775807) : Dm.least (intB n) = true := by
  obtain ⟨j, a, b, c, d, e⟩ := intB_some n h1 h2
  rw [e]
  by_cases hj : j = 1
  · subst hj
    rw [lowB_succ n (by omega)]; rfl
  · obtain ⟨i, rfl⟩ : ∃ i, j = i + 1 := ⟨j - 1, by omega⟩
    rcases d with d | d
    · omega
    · cases hl : Dm.least (lowB n (i + 1)) with
      | true => rfl
      | false => exact absurd ((stop_step n (by omega) (by omega)).2 ⟨hl, c⟩) d
theorem intB_byte (n : Int) (h1 : -9223372036854775808 ≤ n) (h2 : n ≤ 9223372036854775807) : ∀ x ∈ intB n, byte x := by
  obtain ⟨j, _, _, _, _, e⟩ := intB_some n h1 h2
  rw [e]; exact lowB_byte n j
end Go.Proofs.YtpmiihmhfagfoaaDoor
