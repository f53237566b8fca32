/-
  Where the frames of bytes stand: no program in sight.
-/
import Derived.Test.YtiijlakilogekaaWm
namespace Go.Proofs.Ytiijlakilogekaa.Wm
open Go.Proofs.Ytiijlakilogekaa

/-- Where frame j begins. -/
def pos (b : List Int) : Nat → Nat
  | 0 => 0
  | j + 1 => pos b j + (long (b.drop (pos b j)) + 20)
theorem pos_read (b : List Int) (j : Nat) (h : j ≤ (read b).length) : read (b.drop (pos b j)) = (read b).drop j ∧ good b = pos b j + good (b.drop (pos b j)) := by
  induction j with
  | zero => exact ⟨by simp [pos], by simp [pos]⟩
  | succ j ih =>
    obtain ⟨h1, h2⟩ := ih (by omega)
    have hw : whole (b.drop (pos b j)) := by
      apply Classical.byContradiction; intro hn
      rw [(read_not _ hn).1] at h1
      have := congrArg List.length h1
      simp at this; omega
    obtain ⟨e1, e2⟩ := read_whole _ hw
    rw [h1] at e1
    have hd : (read b).drop j = (read b)[j]'(by omega) :: (read b).drop (j + 1) := List.drop_eq_getElem_cons (by omega)
    rw [hd, List.cons.injEq, List.drop_drop] at e1
    rw [List.drop_drop] at e2
    exact ⟨by rw [e1.2, List.drop_drop]; rfl, by rw [h2, e2]; show _ = pos b j + (long (b.drop (pos b j)) + 20) + _; rw [pos]; omega⟩
theorem pos_at (b : List Int) (j : Nat) (h : j < (read b).length) : whole (b.drop (pos b j)) ∧ (read b)[j]?.getD [] = (b.drop (pos b j + 4)).take (long (b.drop (pos b j))) ∧ pos b (j + 1) = pos b j + (long (b.drop (pos b j)) + 20) ∧ pos b (j + 1) ≤ b.length := by
  obtain ⟨h1, h2⟩ := pos_read b j (by omega)
  have hw : whole (b.drop (pos b j)) := by
    apply Classical.byContradiction; intro hn
    rw [(read_not _ hn).1] at h1
    have := congrArg List.length h1
    simp at this; omega
  obtain ⟨e1, e2⟩ := read_whole _ hw
  rw [h1] at e1
  have hd : (read b).drop j = (read b)[j]'(by omega) :: (read b).drop (j + 1) := List.drop_eq_getElem_cons (by omega)
  rw [hd, List.cons.injEq, List.drop_drop] at e1
  refine ⟨hw, by rw [List.getElem?_eq_getElem h]; exact e1.1, rfl, ?_⟩
  have := good_le b
  rw [pos]; omega
theorem pos_end (b : List Int) : pos b (read b).length = good b ∧ ¬ whole (b.drop (pos b (read b).length)) := by
  obtain ⟨h1, h2⟩ := pos_read b _ (Nat.le_refl _)
  have hn : ¬ whole (b.drop (pos b (read b).length)) := by
    intro hw
    rw [List.drop_length] at h1
    rw [(read_whole _ hw).1] at h1
    cases h1
  exact ⟨by rw [(read_not _ hn).2] at h2; omega, hn⟩
/-- What comes of the first bytes of the number. -/
theorem num_snoc (l : List Int) (x : Int) : num (l ++ [x]) = num l * 256 + x := by simp [num]
theorem num_mono (l m : List Int) (hl : 0 ≤ num l) (h : ∀ x ∈ m, byte x) : num l ≤ num (l ++ m) := by
  induction m generalizing l with
  | nil => simp
  | cons x t ih =>
    have hx := h x (by simp)
    have h1 : num l ≤ num (l ++ [x]) := by rw [num_snoc]; unfold byte at hx; omega
    have h2 := ih (l ++ [x]) (by omega) fun y hy => h y (by simp [hy])
    rw [List.append_assoc] at h2
    exact Int.le_trans h1 h2
theorem num_nonneg (l : List Int) (h : ∀ x ∈ l, byte x) : 0 ≤ num l := by
  have := num_mono [] l (by simp [num]) h
  simpa [num] using this
end Go.Proofs.Ytiijlakilogekaa.Wm
