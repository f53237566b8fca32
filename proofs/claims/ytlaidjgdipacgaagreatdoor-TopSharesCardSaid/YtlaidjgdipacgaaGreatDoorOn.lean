/-
  Frames: which blocks may have turned; a block of three cells.
-/
import Derived.Test.YtlaidjgdipacgaaGreatDoorKb
namespace Go.Proofs.YtlaidjgdipacgaaGreatDoor
open Go.RowKit

/-- Of what lay in w only the blocks of S may have turned. -/
structure Only (S : Nat → Prop) (w w' : World) : Prop where
  os : w'.os = w.os
  tape : w'.tape = w.tape
  output : w'.output = w.output
  size : w.heap.size ≤ w'.heap.size
  block : ∀ k, k < w.heap.size → ¬ S k → w'.heap[k]? = w.heap[k]?

theorem Only.refl (S : Nat → Prop) (w : World) : Only S w w := ⟨rfl, rfl, rfl, Nat.le_refl _, fun _ _ _ => rfl⟩
theorem Only.trans {S : Nat → Prop} {a b c : World} (h : Only S a b) (k : Only S b c) : Only S a c :=
  ⟨k.os.trans h.os, k.tape.trans h.tape, k.output.trans h.output, Nat.le_trans h.size k.size, fun i hi hs => (k.block i (Nat.lt_of_lt_of_le hi h.size) hs).trans (h.block i hi hs)⟩
theorem Only.mono {S T : Nat → Prop} {a b : World} (h : Only S a b) (hst : ∀ k, k < a.heap.size → S k → T k) : Only T a b :=
  ⟨h.os, h.tape, h.output, h.size, fun i hi ht => h.block i hi fun hs => ht (hst i hi hs)⟩
theorem Only.drew {S : Nat → Prop} {a w : World} (h : Only S a w) : Only S a w.drew := ⟨h.os, h.tape, h.output, h.size, h.block⟩
theorem Only.drewN {S : Nat → Prop} {a w : World} (h : Only S a w) (n : Nat) : Only S a (w.drewN n) := ⟨h.os, h.tape, h.output, h.size, h.block⟩
theorem Only.alloc {S : Nat → Prop} {a w : World} (h : Only S a w) (o : Obj) : Only S a (w.alloc o) :=
  ⟨h.os, h.tape, h.output, Nat.le_trans h.size (by simp), fun i hi hs => (Below.heap_alloc w o i (Nat.lt_of_lt_of_le hi h.size)).trans (h.block i hi hs)⟩
theorem Only.setCell {S : Nat → Prop} {a w : World} (h : Only S a w) {p : Addr} (hp : S p.block ∨ a.heap.size ≤ p.block) (u : Value) : Only S a (w.setCell p u) :=
  ⟨h.os, h.tape, h.output, by simpa [World.setCell] using h.size, fun i hi hs => (Below.heap_setCell w p u i (by
    rintro rfl
    rcases hp with hp | hp
    · exact hs hp
    · omega)).trans (h.block i hi hs)⟩
theorem Only.of_below {a w : World} (h : Below a.heap.size a w) (S : Nat → Prop) : Only S a w := ⟨h.os, h.tape, h.output, h.size, fun i hi _ => h.block i hi⟩
theorem Only.to_below {S : Nat → Prop} {a w : World} {B : Nat} (h : Only S a w) (hB : B ≤ a.heap.size) (hs : ∀ k, k < B → ¬ S k) : Below B a w :=
  ⟨h.os, h.tape, h.output, h.size, fun k hk => h.block k (Nat.lt_of_lt_of_le hk hB) (hs k hk)⟩
theorem Only.boxed {S : Nat → Prop} {a w : World} (h : Only S a w) {B : Nat} {t : TypeId} {v : Value} (hb : Boxed a B t v) (hs : ¬ S B) : Boxed w B t v := (h.block B hb.lt hs).trans hb
theorem Only.cell {S : Nat → Prop} {a w : World} (h : Only S a w) {p : Addr} (hp : p.block < a.heap.size) (hs : ¬ S p.block) : w.cell? p = a.cell? p := World.cell?_of_block (h.block p.block hp hs)

/-- A block of three cells. -/
def Trip (W : World) (B : Nat) (t : TypeId) (x y z : Value) : Prop := W.heap[B]? = some (.cells #[x, y, z] t (0, 0))
theorem Trip.lt {W : World} {B : Nat} {t : TypeId} {x y z : Value} (h : Trip W B t x y z) : B < W.heap.size := (Array.getElem?_eq_some_iff.1 h).1
theorem Trip.cell0 {W : World} {B : Nat} {t : TypeId} {x y z : Value} (h : Trip W B t x y z) : W.cell? ⟨B, 0, none⟩ = some x := by simp [World.cell?, show W.heap[B]? = _ from h]
theorem Trip.cell1 {W : World} {B : Nat} {t : TypeId} {x y z : Value} (h : Trip W B t x y z) : W.cell? ⟨B, 1, none⟩ = some y := by simp [World.cell?, show W.heap[B]? = _ from h]
theorem Trip.cell2 {W : World} {B : Nat} {t : TypeId} {x y z : Value} (h : Trip W B t x y z) : W.cell? ⟨B, 2, none⟩ = some z := by simp [World.cell?, show W.heap[B]? = _ from h]
theorem Trip.free {W : World} {B : Nat} {t : TypeId} {x y z : Value} (h : Trip W B t x y z) (o : Nat) : W.frozen? ⟨B, o, none⟩ = false := by simp [World.frozen?, show W.heap[B]? = _ from h]
theorem Trip.set {W : World} {B : Nat} {t : TypeId} {x y z : Value} (h : Trip W B t x y z) (i : Nat) (v : Value) : (W.setCell ⟨B, i, none⟩ v).heap[B]? = some (.cells (#[x, y, z].setIfInBounds i v) t (0, 0)) := by
  obtain ⟨hlt, hk⟩ := Array.getElem?_eq_some_iff.1 h
  show (W.heap.modify B _)[B]? = _
  rw [Array.getElem?_eq_getElem (by rw [Array.size_modify]; exact hlt), Array.getElem_modify_self, hk]
  rfl
theorem Trip.set0 {W : World} {B : Nat} {t : TypeId} {x y z : Value} (h : Trip W B t x y z) (v : Value) : Trip (W.setCell ⟨B, 0, none⟩ v) B t v y z := h.set 0 v
theorem Trip.set1 {W : World} {B : Nat} {t : TypeId} {x y z : Value} (h : Trip W B t x y z) (v : Value) : Trip (W.setCell ⟨B, 1, none⟩ v) B t x v z := h.set 1 v
theorem Trip.set2 {W : World} {B : Nat} {t : TypeId} {x y z : Value} (h : Trip W B t x y z) (v : Value) : Trip (W.setCell ⟨B, 2, none⟩ v) B t x y v := h.set 2 v
theorem Only.trip {S : Nat → Prop} {a w : World} (h : Only S a w) {B : Nat} {t : TypeId} {x y z : Value} (hb : Trip a B t x y z) (hs : ¬ S B) : Trip w B t x y z := (h.block B hb.lt hs).trans hb
theorem Trip.drewN {W : World} {B : Nat} {t : TypeId} {x y z : Value} (h : Trip W B t x y z) (n : Nat) : Trip (W.drewN n) B t x y z := h
theorem Trip.other {W : World} {B : Nat} {t : TypeId} {x y z : Value} (h : Trip W B t x y z) {p : Addr} (hp : p.block ≠ B) (u : Value) : Trip (W.setCell p u) B t x y z := (Below.heap_setCell W p u B (fun e => hp e.symm)).trans h
end Go.Proofs.YtlaidjgdipacgaaGreatDoor
