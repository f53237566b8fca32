/-
  Slices of slices of numbers: 'Rws'; a store that came in; such slices that came in.
-/
import Derived.Test.YtlaidjgdipacgaaGreatDoorAp
import Derived.OpenShut
import Derived.Deep.Matrix
import Derived.Lib.SmallJoins
import Derived.ChangeSame
namespace Go.Proofs.YtlaidjgdipacgaaGreatDoor
open Go.RowKit

/-- The value v is a slice of slices, whose elements are the rows ls, each of numbers of the kind k. -/
def Rws (k : IntKind) (w : World) (v : Value) (ls : List (List Int)) : Prop :=
  ∃ a cap, ∃ V : Nat → Value, v = .slice a ls.length cap ∧ ls.length ≤ cap ∧ cap ≤ maxLen ∧ (a = none → cap = 0) ∧
    (ls ≠ [] → ∃ b off, a = some ⟨b, off, none⟩ ∧ b < w.heap.size ∧ ∀ i, i < ls.length → w.cell? ⟨b, off + i, none⟩ = some (V i)) ∧
    ∀ i, i < ls.length → Row k w (V i) (ls[i]?.getD [])

theorem Rws.below {k : IntKind} {w w' : World} {v : Value} {ls : List (List Int)} (h : Rws k w v ls) (hb : Below w.heap.size w w') : Rws k w' v ls := by
  obtain ⟨a, cap, V, h1, h2, h3, h0, h4, h5⟩ := h
  refine ⟨a, cap, V, h1, h2, h3, h0, fun hne => ?_, fun i hi => (h5 i hi).below hb⟩
  obtain ⟨b, off, e, hlt, hc⟩ := h4 hne
  exact ⟨b, off, e, Nat.lt_of_lt_of_le hlt hb.size, fun i hi => (hb.cell (p := ⟨b, off + i, none⟩) hlt).trans (hc i hi)⟩
theorem Rws.nil (k : IntKind) (w : World) : Rws k w (.slice none 0 0) [] :=
  ⟨none, 0, fun _ => .slice none 0 0, rfl, Nat.le_refl _, Nat.zero_le _, fun _ => rfl, fun h => absurd rfl h, fun _ hi => absurd hi (Nat.not_lt_zero _)⟩
theorem Rws.alloc {k : IntKind} {w : World} {v : Value} {ls : List (List Int)} (h : Rws k w v ls) (o : Obj) : Rws k (w.alloc o) v ls := h.below ((Below.refl _ w).alloc (Nat.le_refl _) o)
/-- Cut behind. -/
theorem Rws.take {k : IntKind} {w : World} {a : Option Addr} {n cap : Nat} {ls : List (List Int)} (h : Rws k w (.slice a n cap) ls) (m : Nat) (hm : m ≤ ls.length) : Rws k w (.slice a m cap) (ls.take m) := by
  obtain ⟨a', cap', V, e, hl, hc, hn, hr, hv⟩ := h
  cases e
  have hlen : (ls.take m).length = m := by simp; omega
  refine ⟨a, cap, V, by rw [hlen], by omega, hc, hn, fun hne => ?_, fun i hi => ?_⟩
  · have hne' : ls ≠ [] := by rintro rfl; simp at hne
    obtain ⟨b, off, e, hb, hx⟩ := hr hne'
    exact ⟨b, off, e, hb, fun i hi => hx i (by omega)⟩
  · rw [List.getElem?_take_of_lt (by omega)]; exact hv i (by omega)
/-- Cut ahead, below the capacity. -/
theorem Rws.cut {k : IntKind} {w : World} {a : Option Addr} {n cap : Nat} {ls : List (List Int)} (h : Rws k w (.slice a n cap) ls) (m : Nat) (hm : m ≤ ls.length) (hlt : m < cap) : Rws k w (.slice (Option.map (fun x => x.add m) a) (n - m) (cap - m)) (ls.drop m) := by
  obtain ⟨a', cap', V, e, hl, hc, hn, hr, hv⟩ := h
  cases e
  have hlen : (ls.drop m).length = ls.length - m := by simp
  refine ⟨_, _, fun i => V (m + i), by rw [hlen], by omega, by omega, (fun h => ?_), fun hne => ?_, fun i hi => ?_⟩
  · have : a = none := by cases a with
      | none => rfl
      | some x => cases h
    have := hn this; omega
  · have hne' : ls ≠ [] := by rintro rfl; simp at hne
    obtain ⟨b', off', rfl, hb, hx⟩ := hr hne'
    refine ⟨b', off' + m, by simp [addr_add], hb, fun i hi => ?_⟩
    rw [hlen] at hi
    have := hx (m + i) (by omega)
    rw [Nat.add_assoc, this]
  · rw [List.getElem?_drop]; exact hv (m + i) (by omega)
theorem Rws.empty (k : IntKind) (w : World) (a : Option Addr) (cap : Nat) (hc : cap ≤ maxLen) (h : a = none → cap = 0) : Rws k w (.slice a 0 cap) [] :=
  ⟨a, cap, fun _ => .slice none 0 0, rfl, Nat.zero_le _, hc, h, fun h => absurd rfl h, fun _ hi => absurd hi (Nat.not_lt_zero _)⟩
theorem Rws.cut_all {k : IntKind} {w : World} {a : Option Addr} {n cap : Nat} {ls : List (List Int)} (h : Rws k w (.slice a n cap) ls) (m : Nat) (hm : m ≤ ls.length) (hlt : cap - m = 0) : Rws k w (.slice a (n - m) 0) (ls.drop m) := by
  obtain ⟨a', cap', V, e, hl, hc, hn, hr, hv⟩ := h
  cases e
  have hd : ls.drop m = [] := List.drop_eq_nil_of_le (by omega)
  rw [hd, show ls.length - m = 0 by omega]
  exact Rws.empty k w a 0 (by unfold maxLen; omega) (fun _ => rfl)
/-- One of its rows: the cell, and what it is. -/
theorem Rws.at {k : IntKind} {w : World} {b off n cap : Nat} {ls : List (List Int)} (h : Rws k w (.slice (some ⟨b, off, none⟩) n cap) ls) (i : Nat) (hi : i < ls.length) : b < w.heap.size ∧ ∃ v, w.cell? ⟨b, off + i, none⟩ = some v ∧ Row k w v (ls[i]?.getD []) := by
  obtain ⟨a', cap', V, e, hl, hc, hn, hr, hv⟩ := h
  cases e
  obtain ⟨b', off', e, hb, hx⟩ := hr (by rintro rfl; simp at hi)
  cases e
  exact ⟨hb, V i, hx i hi, hv i hi⟩
/-- A row of slices that the call itself owns. -/
theorem Rws.of_owns {k : IntKind} {w : World} {base : Nat} {e : TypeId} {v : Value} {ls : List (List Int)} {vs : List Value} (h : w.ownsRow base e 1 v ls.length vs) (hv : ∀ i, i < ls.length → Row k w (vs[i]?.getD undef) (ls[i]?.getD [])) : Rws k w v ls := by
  have hl : vs.length = ls.length := by have := h.1; omega
  rcases h.2 with ⟨rfl, h0⟩ | ⟨g, cap, cur, rfl, hg, hh, hn, hm, hs, ht⟩
  · have : ls = [] := List.length_eq_zero_iff.1 h0
    subst this; exact Rws.nil k w
  · refine ⟨_, cap, fun i => vs[i]?.getD undef, rfl, hn, hm, (fun h => by cases h), fun _ => ⟨g, 0, rfl, (Array.getElem?_eq_some_iff.1 hh).1, fun i hi => ?_⟩, hv⟩
    rw [Nat.zero_add, h.cellAt i (by omega)]; simp [List.getElem?_eq_getElem (show i < vs.length by omega)]
theorem owns_base {w : World} {base b' : Nat} {e : TypeId} {size n : Nat} {v : Value} {xs : List Value} (h : w.ownsRow base e size v n xs) (hb : b' ≤ base) : w.ownsRow b' e size v n xs := by
  refine ⟨h.1, ?_⟩
  rcases h.2 with h | ⟨g, cap, cur, hv, hg, r⟩
  · exact .inl h
  · exact .inr ⟨g, cap, cur, hv, Nat.le_trans hb hg, r⟩
/-- A slice of slices that the walk has just built. -/
theorem Rws.lit (k : IntKind) (w : World) (t : TypeId) (vs : List Value) (ls : List (List Int)) (hl : vs.length = ls.length) (hm : ls.length ≤ maxLen) (hv : ∀ i, i < ls.length → Row k w (vs[i]?.getD undef) (ls[i]?.getD [])) :
    Rws k (w.alloc (.cells vs.toArray t)) (.slice (some ⟨w.heap.size, 0, none⟩) ls.length ls.length) ls := by
  refine ⟨_, _, fun i => vs[i]?.getD undef, rfl, Nat.le_refl _, hm, (fun h => by cases h), fun _ => ⟨_, _, rfl, by simp, fun i hi => ?_⟩, fun i hi => (hv i hi).alloc _⟩
  have hh : (w.alloc (.cells vs.toArray t)).heap[w.heap.size]? = some (.cells vs.toArray t) := by
    show (w.heap.push _)[w.heap.size]? = _
    simp
  simp only [World.cell?, hh]; simp [show i < vs.length by omega]

section
open Go.ChangeShapes Go.WideShapes Go.Deep Go.Joins
variable {H : Type} {enc : TypeId × Value → H} {P : Program} {w : World} {held : Bool}
/-- A slice of numbers, read. -/
theorem row_of_trod {base : Nat} {t e : TypeId} {k : IntKind} {fuel : Nat} {v : Value} {x : DataW H × List MemPlace} (ht : P.underlying t = some (.slice e)) (he : P.underlying e = some (.int k)) (hC : P.cellsOf e = 1) (h : DataW.trod enc P w base (fun _ => true) held fuel t [v] = some x) : ∃ l, Row k w v l := by
  rcases open_ints ht he hC h with ⟨hcs, _⟩ | ⟨a, l, c, zs, hcs, _, hl, hm, hz, _, hcell, hwz⟩
  · obtain rfl : v = .slice none 0 0 := by simpa using hcs
    exact ⟨[], Row.nil _ _⟩
  · obtain rfl : v = .slice (some a) l c := by simpa using hcs
    exact ⟨_, Row.of_ints hl hm (by simpa using hz) hcell hwz⟩
/-- A slice of slices of numbers, read. -/
theorem rows_of_trod {base : Nat} {t e q : TypeId} {k : IntKind} {fuel : Nat} {v : Value} {x : DataW H × List MemPlace} (ht : P.underlying t = some (.slice e)) (he : P.underlying e = some (.slice q)) (hq : P.underlying q = some (.int k))
    (ce : P.cellsOf e = 1) (cq : P.cellsOf q = 1) (h : DataW.trod enc P w base (fun _ => true) held fuel t [v] = some x) : ∃ ls, Rws k w v ls := by
  rcases open_int_rows ht he hq ce cq h with ⟨hcs, _⟩ | ⟨a, len, cap, A, L, C, Z, hcs, _, hl, hm, _, hc⟩
  · obtain rfl : v = .slice none 0 0 := by simpa using hcs
    exact ⟨[], Rws.nil _ _⟩
  · obtain rfl : v = .slice (some a) len cap := by simpa using hcs
    have hlen : (((List.range len).map fun r => (Z r).take (L r)) : List (List Int)).length = len := by simp
    refine ⟨(List.range len).map fun r => (Z r).take (L r), some a, cap, fun r => .slice (A r) (L r) (C r), by rw [hlen], by omega, hm, (fun h => by cases h), fun hne => ?_, fun i hi => ?_⟩
    · have h0 : 0 < len := by
        apply Nat.pos_of_ne_zero; rintro rfl; simp at hne
      obtain ⟨b, off, spot⟩ := a
      have hc0 := (hc 0 (by omega)).1
      have hspot : spot = none := by simpa [Addr.add] using World.cell?_spot hc0
      subst hspot
      refine ⟨b, off, rfl, ?_, fun i hi => ?_⟩
      · have := World.block_lt_of_cell? w _ hc0; simpa [Addr.add] using this
      · have := (hc i (by omega)).1
        rw [addr_add] at this; exact this
    · rw [hlen] at hi
      obtain ⟨_, r1, r2, r3, r4, r5, r6⟩ := hc i (by omega)
      rw [List.getElem?_map, List.getElem?_range hi]
      simp only [Option.map_some, Option.getD_some]
      cases hA : A i with
      | none =>
        have h0 := r5 hA
        have hL : L i = 0 := by omega
        rw [hL, h0, List.take_zero]; exact Row.nil _ _
      | some a' => exact Row.of_ints r1 r2 r3 (fun c hc' => (r6 a' hA).2 c (by omega)) r4
/-- A struct of two slices of numbers, read. -/
theorem pair_of_trod {r : Reach} {base b0 : Nat} {t e : TypeId} {k : IntKind} {v : Value} {d : DataW H} {p : List MemPlace} (f0 f1 : Field) (hs : P.underlying t = some (.struct #[f0, f1])) (hone : oneCellFields P #[f0, f1] = true) (hC : P.cellsOf t = 2)
    (h0 : P.underlying f0.type = some (.slice e)) (h1 : P.underlying f1.type = some (.slice e)) (he : P.underlying e = some (.int k)) (ce : P.cellsOf e = 1)
    (hv : Value.okWide P w r b0 t v) (h : DataW.Trod enc P w base (fun _ => true) held t v d p) : ∃ (v0 v1 : Value) (l0 l1 : List Int), v = .agg #[v0, v1] ∧ Row k w v0 l0 ∧ Row k w v1 l1 := by
  obtain ⟨v0, v1, y0, y1, n, rfl, _, _, t0, t1⟩ := open_agg2 hs hone hC hv h
  obtain ⟨l0, r0⟩ := row_of_trod h0 he ce t0
  obtain ⟨l1, r1⟩ := row_of_trod h1 he ce t1
  exact ⟨v0, v1, l0, l1, rfl, r0, r1⟩
end
end Go.Proofs.YtlaidjgdipacgaaGreatDoor
