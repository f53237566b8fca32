/-
  The plain facts of law20's live.
-/
import Derived.Test.YtiijlakilogekaaWm
namespace Go.Proofs.Ytiijlakilogekaa.Wm

/-- A whole store and a beginning of a frame that is not whole. -/
theorem live_facts (x y : List Int) (k : Nat) (hx : x.length ≤ 4096) (hk : k < 20) :
    read (frame x ++ (frame y).take k) = [x] ∧ good (frame x ++ (frame y).take k) = (frame x).length := by
  obtain ⟨e1, e2⟩ := read_frame x hx
  have hn : ¬ whole ((frame y).take k) := fun h => by have := h.1; simp at this; omega
  obtain ⟨n1, n2⟩ := read_not _ hn
  obtain ⟨a1, a2⟩ := read_append (frame x) ((frame y).take k) e2
  rw [a1, a2, e1, n1, n2]
  exact ⟨rfl, rfl⟩
theorem live_two (x y : List Int) (hx : x.length ≤ 4096) (hy : y.length ≤ 4096) :
    read (frame x ++ frame y) = [x, y] ∧ good (frame x ++ frame y) = (frame x ++ frame y).length := by
  obtain ⟨e1, e2⟩ := read_frame x hx
  obtain ⟨f1, f2⟩ := read_frame y hy
  obtain ⟨a1, a2⟩ := read_append (frame x) (frame y) e2
  rw [a1, a2, e1, f1, f2]
  exact ⟨rfl, by simp⟩
end Go.Proofs.Ytiijlakilogekaa.Wm
