/-
  The walks over the laws of layer 20 that put nothing in a loop: WalMore.
-/
import Derived.Test.YtiijlakilogekaaWv
namespace Go.Proofs.Ytiijlakilogekaa
open Go.RowKit

/-- A store: its two rows. -/
def Sto (w : World) (v : Value) (x : List Int × List Int) : Prop := ∃ v1 v2, v = .agg #[v1, v2] ∧ Row .u8 w v1 x.1 ∧ Row .u8 w v2 x.2

theorem Rws.shape {k : IntKind} {w : World} {v : Value} {ls : List (List Int)} (h : Rws k w v ls) : ∃ a c, v = .slice a ls.length c ∧ ls.length ≤ c ∧ c ≤ maxLen := by
  obtain ⟨a, c, V, e, h1, h2, -⟩ := h
  exact ⟨a, c, e, h1, h2⟩

theorem Wm.more_facts (S O : List Int) (l m : Nat) (h : l ≤ m) : Wm.good (S ++ O.take l) ≤ Wm.good (S ++ O.take m) ∧ (Wm.read (S ++ O.take l)).length ≤ (Wm.read (S ++ O.take m)).length ∧
    Wm.read (S ++ O.take l) = (Wm.read (S ++ O.take m)).take (Wm.read (S ++ O.take l)).length := by
  have e : S ++ O.take m = (S ++ O.take l) ++ (O.drop l).take (m - l) := by
    rw [List.append_assoc]
    congr 1
    conv => lhs; rw [show m = l + (m - l) by omega, List.take_add]
  obtain ⟨h1, h2⟩ := Wm.read_less (S ++ O.take l) ((O.drop l).take (m - l))
  rw [← e] at h1 h2
  exact ⟨h2, h1.length_le, List.prefix_iff_eq_take.1 h1⟩

end Go.Proofs.Ytiijlakilogekaa
