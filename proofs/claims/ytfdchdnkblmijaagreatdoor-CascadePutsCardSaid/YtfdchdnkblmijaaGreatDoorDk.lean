/-
  One item more in der.get's sequence: what the append and the store leave.
-/
import Derived.Test.YtfdchdnkblmijaaGreatDoorDj
namespace Go.Proofs.YtfdchdnkblmijaaGreatDoor
open Go.RowKit

theorem Own.mono {n n' : Nat} {g : Option Nat} {W : World} {vb vl : Value} {x : Dm.It} (h : Own n' g W vb vl x) (hn : n ≤ n') : Own n g W vb vl x := fun V hV => h V ⟨hV.1, fun k h1 h2 h3 => hV.2 k (Nat.le_trans hn h1) h2 h3⟩
theorem own_at {W : World} {base n size g : Nat} {e : TypeId} {v : Value} {xs : List Value} (ho : W.ownsRow base e size v n xs) (hg : v.ownBlock = some g) : base ≤ g ∧ g < W.heap.size := World.ownsRow.lt ho g hg
theorem seq_step {w wr V w5 : World} {B : Nat} {t2 : TypeId} {lv v' vb vl : Value} {ys : List Dm.It} {xs : List Value} {y : Dm.It} {x0 x1 : Value}
    (hd : Trip wr B t2 x0 x1 lv) (ho : wr.ownsRow (B + 1) 45 3 lv ys.length xs) (hc : Cells (B + 1) lv.ownBlock wr xs ys) (hb : Below B w wr)
    (hV : Below wr.heap.size wr V) (hy : Own (wr.heap.size + 1) none V vb vl y)
    (hg : V.grownBy w5 lv.ownBlock) (own5 : w5.ownsRow (B + 1) 45 3 v' (ys.length + 1) (xs ++ [.int .i64 y.tag, vb, vl])) (hat : v'.ownBlock = lv.ownBlock ∨ v'.ownBlock = some V.heap.size) :
    Trip (w5.setCell ⟨B, 2, none⟩ v') B t2 x0 x1 v' ∧ (w5.setCell ⟨B, 2, none⟩ v').ownsRow (B + 1) 45 3 v' (ys ++ [y]).length (xs ++ [.int .i64 y.tag, vb, vl]) ∧
      Cells (B + 1) v'.ownBlock (w5.setCell ⟨B, 2, none⟩ v') (xs ++ [.int .i64 y.tag, vb, vl]) (ys ++ [y]) ∧ Below B w (w5.setCell ⟨B, 2, none⟩ v') := by
  have hlt := hd.lt
  have hgo : ∀ k, lv.ownBlock = some k → B + 1 ≤ k ∧ k < wr.heap.size := fun k hk => own_at ho hk
  have hdV : Trip V B t2 x0 x1 lv := (hV.block B hlt).trans hd
  have hd5 : Trip w5 B t2 x0 x1 lv := (hg.block B (Nat.lt_of_lt_of_le hlt hV.size) (fun e => by have := hgo B e.symm; omega)).trans hdV
  have far : ∀ k, k ≠ B → (w5.setCell ⟨B, 2, none⟩ v').heap[k]? = w5.heap[k]? := fun k hk => Below.heap_setCell w5 ⟨B, 2, none⟩ v' k hk
  have hss : (w5.setCell ⟨B, 2, none⟩ v').heap.size = w5.heap.size := by simp
  have c1 : Cells (B + 1) lv.ownBlock V (xs ++ [.int .i64 y.tag, vb, vl]) (ys ++ [y]) :=
    (hc.kept (Keep.of_below hV (Nat.le_refl _))).snoc (hy.of_new (by omega) (fun k hk => by have := hgo k hk; omega))
  have c2 := c1.moved (Keep.of_grown hg) hat
  have c3 := c2.kept (V := w5.setCell ⟨B, 2, none⟩ v') (show Keep (B + 1) v'.ownBlock w5 _ from ⟨by rw [hss]; exact Nat.le_refl _, fun k hk _ _ => far k (by omega)⟩)
  have hbV : Below B w V := hb.trans (hV.mono (by omega))
  have hb5 : Below B w w5 := ⟨hg.os.trans hbV.os, hg.tape.trans hbV.tape, hg.output.trans hbV.output, Nat.le_trans hbV.size hg.size, fun k hk => (hg.block k (by have := hV.size; omega) (fun e => by have := hgo k e.symm; omega)).trans (hbV.block k hk)⟩
  refine ⟨hd5.set2 v', ?_, c3, hb5.setCell (Nat.le_refl _) _⟩
  rw [List.length_append]
  refine ⟨own5.1, own5.2.imp_right ?_⟩
  rintro ⟨g, cap, cur, e, h1, h2, r⟩
  exact ⟨g, cap, cur, e, h1, (far g (by omega)).trans h2, r⟩
end Go.Proofs.YtfdchdnkblmijaaGreatDoor
