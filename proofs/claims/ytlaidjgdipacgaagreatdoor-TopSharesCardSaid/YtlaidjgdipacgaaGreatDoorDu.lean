/-
  A block of two cells; a slice that lies far: small facts, with no import that changes a walk.
-/
import Derived.Test.YtlaidjgdipacgaaGreatDoorAp
namespace Go.Proofs.YtlaidjgdipacgaaGreatDoor
open Go.RowKit

def lenOf : Value → Nat
  | .slice _ n _ => n
  | _ => 0
def oneOf : Value → Nat
  | .bool true => 1
  | _ => 0
/-- A block of two cells. -/
def Duo (W : World) (B : Nat) (t : TypeId) (x y : Value) : Prop := W.heap[B]? = some (.cells #[x, y] t (0, 0))
theorem Duo.lt {W : World} {B : Nat} {t : TypeId} {x y : Value} (h : Duo W B t x y) : B < W.heap.size := (Array.getElem?_eq_some_iff.1 h).1
theorem Duo.new (W : World) (t : TypeId) (x y : Value) : Duo (W.alloc (.cells #[x, y] t)) W.heap.size t x y := by show (W.heap.push _)[W.heap.size]? = _; simp
theorem Duo.kept {W W' : World} {B n : Nat} {t : TypeId} {x y : Value} (h : Duo W B t x y) (hb : Below n W W') (hlt : B < n) : Duo W' B t x y := (hb.block B hlt).trans h
theorem Duo.alloc {W : World} {B : Nat} {t : TypeId} {x y : Value} (h : Duo W B t x y) (o : Obj) : Duo (W.alloc o) B t x y := (Below.heap_alloc W o B h.lt).trans h

theorem Duo.cell0 {W : World} {B : Nat} {t : TypeId} {x y : Value} (h : Duo W B t x y) : W.cell? ⟨B, 0, none⟩ = some x := by simp [World.cell?, show W.heap[B]? = _ from h]
theorem Duo.cell1 {W : World} {B : Nat} {t : TypeId} {x y : Value} (h : Duo W B t x y) : W.cell? ⟨B, 1, none⟩ = some y := by simp [World.cell?, show W.heap[B]? = _ from h]
theorem Duo.free {W : World} {B : Nat} {t : TypeId} {x y : Value} (h : Duo W B t x y) (o : Nat) : W.frozen? ⟨B, o, none⟩ = false := by simp [World.frozen?, show W.heap[B]? = _ from h]

theorem Duo.set0 {W : World} {B : Nat} {t : TypeId} {x y : Value} (h : Duo W B t x y) (v : Value) : Duo (W.setCell ⟨B, 0, none⟩ v) B t v y := by
  obtain ⟨hlt, hk⟩ := Array.getElem?_eq_some_iff.1 h
  show (W.heap.modify B _)[B]? = _
  rw [Array.getElem?_eq_getElem (by rw [Array.size_modify]; exact hlt), Array.getElem_modify_self, hk]; rfl
theorem Duo.set1 {W : World} {B : Nat} {t : TypeId} {x y : Value} (h : Duo W B t x y) (v : Value) : Duo (W.setCell ⟨B, 1, none⟩ v) B t x v := by
  obtain ⟨hlt, hk⟩ := Array.getElem?_eq_some_iff.1 h
  show (W.heap.modify B _)[B]? = _
  rw [Array.getElem?_eq_getElem (by rw [Array.size_modify]; exact hlt), Array.getElem_modify_self, hk]; rfl

theorem Duo.other {W : World} {B : Nat} {t : TypeId} {x y : Value} (h : Duo W B t x y) {p : Addr} (hp : p.block ≠ B) (u : Value) : Duo (W.setCell p u) B t x y := (Below.heap_setCell W p u B (fun e => hp e.symm)).trans h

/-- A slice whose block lies at n or beyond. -/
def Far (n : Nat) (v : Value) : Prop := ∀ g, v.ownBlock = some g → n ≤ g
theorem far_add (n : Nat) (a : Option Addr) (l c m l' c' : Nat) (h : Far n (.slice a l c)) : Far n (.slice (Option.map (fun x => x.add m) a) l' c') := by
  intro g e
  cases a with
  | none => simp [Value.ownBlock] at e
  | some x =>
    refine h g ?_
    rw [← e]; simp only [Value.ownBlock, Option.map_some, Addr.add]
    by_cases h0 : m = 0 <;> simp [h0]

theorem far_add' {n : Nat} (b o l c : Nat) (h : n ≤ b) : Far n (.slice (some ⟨b, o, none⟩) l c) := fun g e => by
  simp [Value.ownBlock] at e; omega
end Go.Proofs.YtlaidjgdipacgaaGreatDoor
