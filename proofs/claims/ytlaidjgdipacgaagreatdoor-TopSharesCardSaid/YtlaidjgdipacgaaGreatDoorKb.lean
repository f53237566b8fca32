/-
  What a round of a range over a function keeps.
-/
import Derived.RangeFuncBox
import Derived.RangeFuncNested
import Derived.RangeFuncLeaves
import Derived.Shelf.Abstract
import Derived.WalkKit
import Derived.OwnWalkIn
import Derived.TacticsInMore
import Derived.LoopNIn
import Derived.LoopIn
import Derived.Test.YtlaidjgdipacgaaGreatDoorMe
namespace Go.Proofs.YtlaidjgdipacgaaGreatDoor
open Go.RowKit Go.Shelf

/-- What a round of a loop keeps: whatever lies below n, and one box. -/
def KeepsBox (n B : Nat) (w w' : World) : Prop := Below n w w' ∧ w'.cell? ⟨B, 0, none⟩ = w.cell? ⟨B, 0, none⟩
theorem KeepsBox.trans {n B : Nat} {a b c : World} (h : KeepsBox n B a b) (k : KeepsBox n B b c) : KeepsBox n B a c := ⟨h.1.trans k.1, k.2.trans h.2⟩
theorem KeepsBox.refl (n B : Nat) (w : World) : KeepsBox n B w w := ⟨Below.refl _ _, rfl⟩
theorem KeepsBox.b {n₀ B : Nat} {w : World} (hn : n₀ ≤ w.heap.size) (hB : B < w.heap.size) (W : World) (l : Nat) (o o' : Obj) (hl : w.heap.size ≤ l) (h : W.heap[l]? = some o) (h1 : o.isCells = false) (h2 : o.isWalk = false) : KeepsBox n₀ B W (W.putObj l o') :=
  ⟨belowK_b hn W l o o' hl h h1 h2, (belowK_b (Nat.le_refl _) W l o o' hl h h1 h2).cell (p := ⟨B, 0, none⟩) hB⟩

theorem KeepsBox.drewN {n B : Nat} {a b : World} (h : KeepsBox n B a b) (k : Nat) : KeepsBox n B a (b.drewN k) := ⟨below_drewN h.1 k, h.2⟩
end Go.Proofs.YtlaidjgdipacgaaGreatDoor
