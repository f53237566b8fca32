/-
  How slices of numbers lie in memory: 'Row'.
-/
import Derived.WalkKit
import Derived.WalkSpells
import Derived.WalkLawsBesides
import Derived.Lib.Hide
namespace Go.Proofs.YtlaidjgdipacgaaGreatDoor
open Go.RowKit

/-- The value v is a slice whose elements are the numbers l, each of the kind k, in the world w. -/
def Row (k : IntKind) (w : World) (v : Value) (l : List Int) : Prop :=
  ∃ a cap, v = .slice a l.length cap ∧ l.length ≤ cap ∧ cap ≤ maxLen ∧ (a = none → cap = 0) ∧ (∀ x ∈ l, (Lit.int k x).wf = true) ∧
    (l ≠ [] → ∃ b off, a = some ⟨b, off, none⟩ ∧ b < w.heap.size ∧ ∀ i, i < l.length → w.cell? ⟨b, off + i, none⟩ = some (.int k (l[i]?.getD 0)))

theorem Row.below {k : IntKind} {w w' : World} {v : Value} {l : List Int} (h : Row k w v l) (hb : Below w.heap.size w w') : Row k w' v l := by
  obtain ⟨a, cap, h1, h2, h3, h0, h4, h5⟩ := h
  refine ⟨a, cap, h1, h2, h3, h0, h4, fun hne => ?_⟩
  obtain ⟨b, off, e, hlt, hc⟩ := h5 hne
  exact ⟨b, off, e, Nat.lt_of_lt_of_le hlt hb.size, fun i hi => (hb.cell (p := ⟨b, off + i, none⟩) hlt).trans (hc i hi)⟩

theorem Row.nil (k : IntKind) (w : World) : Row k w (.slice none 0 0) [] :=
  ⟨none, 0, rfl, Nat.le_refl _, Nat.zero_le _, fun _ => rfl, by simp, fun h => absurd rfl h⟩
/-- What has come when k rounds are over. -/
def upto {α : Type} (f : Nat → α) (k : Nat) : List α := (List.range k).map f
theorem upto_succ {α : Type} (f : Nat → α) (k : Nat) : upto f (k + 1) = upto f k ++ [f k] := by simp [upto, List.range_succ]
theorem upto_length {α : Type} (f : Nat → α) (k : Nat) : (upto f k).length = k := by simp [upto]

/-- A row that the call itself owns. -/
theorem Row.of_owns {k : IntKind} {w : World} {base : Nat} {e : TypeId} {v : Value} {l : List Int} (h : w.ownsRow base e 1 v l.length (l.map (Value.int k))) (hw : ∀ x ∈ l, (Lit.int k x).wf = true) : Row k w v l := by
  rcases h.2 with ⟨rfl, h0⟩ | ⟨g, cap, cur, rfl, hg, hh, hn, hm, hs, ht⟩
  · have : l = [] := List.length_eq_zero_iff.1 h0
    subst this; exact Row.nil k w
  · refine ⟨_, cap, rfl, hn, hm, (fun h => by cases h), hw, fun _ => ⟨g, 0, rfl, (Array.getElem?_eq_some_iff.1 hh).1, fun i hi => ?_⟩⟩
    rw [Nat.zero_add, h.cellAt i (by omega), List.getElem?_map, List.getElem?_eq_getElem hi]; rfl
/-- A slice that the walk has just built. -/
theorem Row.lit (k : IntKind) (w : World) (t : TypeId) (l : List Int) (hm : l.length ≤ maxLen) (hw : ∀ x ∈ l, (Lit.int k x).wf = true) :
    Row k (w.alloc (.cells (l.map (Value.int k)).toArray t)) (.slice (some ⟨w.heap.size, 0, none⟩) l.length l.length) l := by
  refine ⟨_, _, rfl, Nat.le_refl _, hm, (fun h => by cases h), hw, fun _ => ⟨_, _, rfl, by simp, fun i hi => ?_⟩⟩
  have hh : (w.alloc (.cells (l.map (Value.int k)).toArray t)).heap[w.heap.size]? = some (.cells (l.map (Value.int k)).toArray t) := by
    show (w.heap.push _)[w.heap.size]? = _
    simp
  simp only [World.cell?, hh]; simp [hi]
theorem Row.alloc {k : IntKind} {w : World} {v : Value} {l : List Int} (h : Row k w v l) (o : Obj) : Row k (w.alloc o) v l := h.below ((Below.refl _ w).alloc (Nat.le_refl _) o)
/-- A slice of numbers that came in. -/
theorem Row.of_ints {k : IntKind} {w : World} {x : Addr} {len cap : Nat} {zs : List Int} (hl : len ≤ cap) (hm : cap ≤ maxLen) (hz : zs.length = cap)
    (hcell : ∀ i, i < zs.length → w.cell? (x.add i) = some (.int k (zs.getD i 0))) (hw : ∀ n ∈ zs, (Lit.int k n).wf = true) : Row k w (.slice (some x) len cap) (zs.take len) := by
  have hlen : (zs.take len).length = len := by simp; omega
  refine ⟨some x, cap, by rw [hlen], by omega, hm, (fun h => by cases h), fun n hn => hw n (List.mem_of_mem_take hn), fun hne => ?_⟩
  have h0 : 0 < len := by
    apply Nat.pos_of_ne_zero; intro h0; apply hne; rw [h0]; rfl
  obtain ⟨b, off, spot⟩ := x
  have hc := hcell 0 (by omega)
  have hspot : spot = none := by simpa [Addr.add] using World.cell?_spot hc
  subst hspot
  refine ⟨b, off, rfl, ?_, fun i hi => ?_⟩
  · have := World.block_lt_of_cell? w _ hc; simpa [Addr.add] using this
  · have h1 := hcell i (by omega)
    rw [show zs.getD i 0 = (zs.take len)[i]?.getD 0 by rw [List.getElem?_take_of_lt (by omega)]; rfl] at h1
    have e : (⟨b, off, none⟩ : Addr).add i = ⟨b, off + i, none⟩ := by
      by_cases h0 : i = 0
      · subst h0; rfl
      · simp [Addr.add, h0]
    rw [e] at h1; exact h1
theorem ret_bool {a b : Bool} (h : a = b) : Ending.returned (.bool a) = .returned (.bool b) := by rw [h]
end Go.Proofs.YtlaidjgdipacgaaGreatDoor
