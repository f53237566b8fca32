/-
  The walk over WalFixed.
-/
import Derived.Test.YtiijlakilogekaaWt
import Derived.Test.YtiijlakilogekaaWo
import Derived.Test.YtiijlakilogekaaRa
namespace Go.Proofs.Ytiijlakilogekaa
open Go.RowKit

theorem info_row20 : (Try.prog.info? 22).map (fun i => (i.zero, i.size, i.bytes)) = some (some (.slice none 0 0), 1, 24) := by kernel_rfl

theorem Wm.fixed_facts (S O : List Int) (T X Y : List Int) (G : Nat) (hT : S ++ O = T) (hG : Wm.good T = G) (hX : T.take (min G S.length) = X) (hY : (T.take G).drop (min G S.length) = Y) :
    X ++ Y = T.take G ∧ X.length + Y.length = G ∧ X.length = min G S.length ∧ Wm.read (X ++ Y) = Wm.read T ∧ Wm.good (X ++ Y) = G ∧ (X ++ Y).take (min G X.length) = X ∧ ((X ++ Y).take G).drop (min G X.length) = Y := by
  have hg := Wm.good_le T
  have hTl : T.length = S.length + O.length := by rw [← hT]; simp
  have e : X ++ Y = T.take G := by
    have h := List.take_append_drop (min G S.length) (T.take G)
    rw [List.take_take, Nat.min_eq_left (Nat.min_le_left _ _), hX, hY] at h
    exact h
  have hl : (X ++ Y).length = G := by rw [e]; simp; omega
  have hXl : X.length = min G S.length := by rw [← hX, List.length_take]; omega
  rw [List.length_append] at hl
  refine ⟨e, hl, hXl, ?_, ?_, ?_, ?_⟩
  · rw [e, ← hG]; exact (Wm.read_good T).1
  · rw [e, ← hG]; exact (Wm.read_good T).2
  · rw [show min G X.length = X.length by omega]; simp
  · rw [show min G X.length = X.length by omega, List.take_of_length_le (by simp; omega)]; simp

theorem len_sub (T G L : Nat) (h : G ≤ T) (hT : T = L) (hL : L ≤ 100000) : IntKind.i64.wrap (((L : Nat) : Int) - G) = ((T - G : Nat) : Int) := by rw [IntWalk.i64_in _ (by omega)]; omega

end Go.Proofs.Ytiijlakilogekaa
