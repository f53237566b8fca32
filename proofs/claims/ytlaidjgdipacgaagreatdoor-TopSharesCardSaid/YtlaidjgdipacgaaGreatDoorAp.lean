/-
  An append of a slice of numbers, whatever it is, to a slice that the call itself owns.
-/
import Derived.Test.YtlaidjgdipacgaaGreatDoorMe
import Derived.Laws.AppendOwnNone
import Derived.Maps.AppendAt
namespace Go.Proofs.YtlaidjgdipacgaaGreatDoor
open Go.RowKit

theorem own_above {w : World} {base : Nat} {e : TypeId} {size n k : Nat} {v : Value} {xs : List Value} (h : w.ownsRow base e size v n xs) (hk : v.ownBlock = some k) : base ≤ k := by
  rcases h.2 with ⟨rfl, _⟩ | ⟨g, cap, cur, rfl, hg, _⟩
  · simp [Value.ownBlock] at hk
  · simp [Value.ownBlock] at hk; omega

theorem wpList_append_row {P : Program} {w : World} {ops : Array Oper} {rest : List Oper} {o : Oper} {a : Act} {Q : Exit → Act → World → Prop} (hgd : o.guard = none) (s x : Operand) (t : TypeId)
    (ho : o.op = .call { callee := .builtin .append, args := #[s, x], argTypes := #[t, t] })
    (base : Nat) (e : TypeId) (i : TypeInfo) (z : Value) (bytes : Nat) (ht : P.underlying t = some (.slice e)) (hi : P.info? e = some i) (hz : i.zero = some z)
    (hsize : i.size = 1) (hby : i.bytes = bytes) (hzs : z.cells.size = 1)
    (v : Value) (n : Nat) (xs : List Value) (hs : a.eval s = v) (hown : w.ownsRow base e 1 v n xs)
    (k : IntKind) (xv : Value) (l : List Int) (hrow : Row k w xv l) (hx : a.eval x = xv) (h63 : n + l.length ≤ maxLen) (hbytes : (n + l.length) * bytes ≤ 140737488355328) (hbase : base ≤ w.heap.size)
    (h : ∀ v' w', w'.ownsRow base e 1 v' (n + l.length) (xs ++ l.map (Value.int k)) → Below base w w' → wpList P ops Q rest (a.put o.dst v') w') : wpList P ops Q (o :: rest) a w := by
  obtain ⟨ad, cap, rfl, hlc, _, hnc, _, hc⟩ := hrow
  cases ad with
  | none =>
    have hl : l = [] := by
      apply Classical.byContradiction; intro hne
      obtain ⟨b, off, e', _⟩ := hc hne; cases e'
    subst hl
    obtain rfl : cap = 0 := hnc rfl
    refine wpList_append_own_none hgd s x t ho base e i 1 ht hi v n xs hs hown hx ?_
    exact h v w (by simpa using hown) (Below.refl _ _)
  | some ad =>
    refine wpList_append_own w hgd s x t ho base e i z 1 bytes ht hi hz hsize hby hzs (by decide) v n xs hs hown ad l.length cap (l.map (Value.int k)) hx (by simp) ?_ ?_ h63 hbytes hbase ?_
    · intro j u hj
      by_cases hne : l = []
      · subst hne; simp at hj
      · obtain ⟨b, off, e', hb, hcell⟩ := hc hne
        cases e'
        have hjl : j < l.length := by
          apply Classical.byContradiction; intro hn
          rw [List.getElem?_eq_none (by simp; omega)] at hj; cases hj
        rw [List.getElem?_map, List.getElem?_eq_getElem hjl] at hj
        simp only [Option.map_some, Option.some.injEq] at hj
        have e1 : (⟨b, off, none⟩ : Addr).add j = ⟨b, off + j, none⟩ := by
          by_cases h0 : j = 0
          · subst h0; rfl
          · simp [Addr.add, h0]
        rw [e1, hcell j hjl, ← hj, List.getElem?_eq_getElem hjl]; rfl
    · intro u hu
      obtain ⟨y, _, rfl⟩ := List.mem_map.1 hu
      rfl
    · intro v' w' h1 h2 _
      exact h v' w' h1 ((Below.refl base w).grown h2 hbase fun k e => own_above hown e)

theorem Row.take {k : IntKind} {w : World} {a : Option Addr} {n cap : Nat} {l : List Int} (h : Row k w (.slice a n cap) l) (m : Nat) (hm : m ≤ l.length) : Row k w (.slice a m cap) (l.take m) := by
  obtain ⟨a', cap', e, hl, hc, hn, hw, hr⟩ := h
  cases e
  have hlen : (l.take m).length = m := by simp; omega
  refine ⟨a, cap, by rw [hlen], by omega, hc, hn, fun x hx => hw x (List.mem_of_mem_take hx), fun hne => ?_⟩
  have hne' : l ≠ [] := by rintro rfl; simp at hne
  obtain ⟨b, off, e, hb, hx⟩ := hr hne'
  exact ⟨b, off, e, hb, fun i hi => by rw [hlen] at hi; rw [hx i (by omega), List.getElem?_take_of_lt hi]⟩

theorem Row.drop {k : IntKind} {w : World} {b off n cap : Nat} {l : List Int} (h : Row k w (.slice (some ⟨b, off, none⟩) n cap) l) (m : Nat) (hm : m ≤ l.length) : Row k w (.slice (some ⟨b, off + m, none⟩) (n - m) (cap - m)) (l.drop m) := by
  obtain ⟨a', cap', e, hl, hc, hn, hw, hr⟩ := h
  cases e
  have hlen : (l.drop m).length = l.length - m := by simp
  refine ⟨_, _, by rw [hlen], by omega, by omega, (fun h => by cases h), fun x hx => hw x (List.mem_of_mem_drop hx), fun hne => ?_⟩
  have hne' : l ≠ [] := by rintro rfl; simp at hne
  obtain ⟨b', off', e, hb, hx⟩ := hr hne'
  cases e
  refine ⟨_, _, rfl, hb, fun i hi => ?_⟩
  rw [hlen] at hi
  have := hx (m + i) (by omega)
  rw [Nat.add_assoc, this, List.getElem?_drop]

theorem owns_empty (w : World) (base : Nat) (e : TypeId) (h : base ≤ w.heap.size) : (w.alloc (.cells #[] e)).ownsRow base e 1 (.slice (some ⟨w.heap.size, 0, none⟩) 0 0) 0 [] :=
  ⟨rfl, .inr ⟨w.heap.size, 0, #[], rfl, h, by show (w.heap.push _)[w.heap.size]? = _; simp, Nat.le_refl _, Nat.zero_le _, rfl, rfl⟩⟩

theorem owns_below {w w' : World} {base : Nat} {e : TypeId} {size n : Nat} {v : Value} {xs : List Value} (h : w.ownsRow base e size v n xs) (hb : Below w.heap.size w w') : w'.ownsRow base e size v n xs := by
  refine ⟨h.1, ?_⟩
  rcases h.2 with h | ⟨g, cap, cur, hv, hg, hh, r⟩
  · exact .inl h
  · exact .inr ⟨g, cap, cur, hv, hg, (hb.block g (Array.getElem?_eq_some_iff.1 hh).1).trans hh, r⟩
theorem Row.empty (k : IntKind) (w : World) (a : Option Addr) (cap : Nat) (hc : cap ≤ maxLen) (h : a = none → cap = 0) : Row k w (.slice a 0 cap) [] :=
  ⟨a, cap, rfl, Nat.zero_le _, hc, h, by simp, fun h => absurd rfl h⟩

theorem addr_add (b off m : Nat) : (⟨b, off, none⟩ : Addr).add m = ⟨b, off + m, none⟩ := by
  by_cases h0 : m = 0
  · subst h0; rfl
  · simp [Addr.add, h0]
/-- A slice of numbers, cut ahead: what the walk writes for 's[m:]' where m is below the capacity. -/
theorem Row.cut {k : IntKind} {w : World} {a : Option Addr} {n cap : Nat} {l : List Int} (h : Row k w (.slice a n cap) l) (m : Nat) (hm : m ≤ l.length) (hlt : m < cap) : Row k w (.slice (Option.map (fun x => x.add m) a) (n - m) (cap - m)) (l.drop m) := by
  obtain ⟨a', cap', e, hl, hc, hn, hw, hr⟩ := h
  cases e
  have hlen : (l.drop m).length = l.length - m := by simp
  refine ⟨_, _, by rw [hlen], by omega, by omega, (fun h => ?_), fun x hx => hw x (List.mem_of_mem_drop hx), fun hne => ?_⟩
  · have : a = none := by cases a with
      | none => rfl
      | some x => cases h
    have := hn this; omega
  have hne' : l ≠ [] := by rintro rfl; simp at hne
  obtain ⟨b', off', rfl, hb, hx⟩ := hr hne'
  refine ⟨b', off' + m, by simp [addr_add], hb, fun i hi => ?_⟩
  rw [hlen] at hi
  have := hx (m + i) (by omega)
  rw [Nat.add_assoc, this, List.getElem?_drop]
/-- .. where m is the capacity. -/
theorem Row.cut_all {k : IntKind} {w : World} {a : Option Addr} {n cap : Nat} {l : List Int} (h : Row k w (.slice a n cap) l) (m : Nat) (hm : m ≤ l.length) (hlt : cap - m = 0) : Row k w (.slice a (n - m) 0) (l.drop m) := by
  obtain ⟨a', cap', e, hl, hc, hn, hw, hr⟩ := h
  cases e
  have hd : l.drop m = [] := List.drop_eq_nil_of_le (by omega)
  rw [hd, show l.length - m = 0 by omega]
  exact Row.empty k w a 0 (by unfold maxLen; omega) (fun _ => rfl)
end Go.Proofs.YtlaidjgdipacgaaGreatDoor
