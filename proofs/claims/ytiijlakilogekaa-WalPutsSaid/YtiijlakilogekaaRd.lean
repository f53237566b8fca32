/-
  An append to a slice of no room (a literal of no elements): nothing that was there changes.
-/
import Derived.Test.YtiijlakilogekaaRb
namespace Go.Proofs.Ytiijlakilogekaa
open Go.RowKit

/-- The block of an empty literal. -/
def Bare (w : World) (g : Nat) (e : TypeId) : Prop := w.heap[g]? = some (.cells #[] e)
theorem Bare.new (w : World) (e : TypeId) : Bare (w.alloc (.cells #[] e)) w.heap.size e := by show (w.heap.push _)[w.heap.size]? = _; simp
theorem Bare.new' (w : World) (e : TypeId) (g : Nat) (hg : g = w.heap.size) : Bare (w.alloc (.cells #[] e)) g e := by subst hg; exact Bare.new w e
theorem Bare.lt {w : World} {g : Nat} {e : TypeId} (h : Bare w g e) : g < w.heap.size := (Array.getElem?_eq_some_iff.1 h).1
theorem Bare.stp {w w' : World} {g : Nat} {e : TypeId} (h : Bare w g e) (hb : Below w.heap.size w w') : Bare w' g e := (hb.block g h.lt).trans h
theorem Bare.alloc {w : World} {g : Nat} {e : TypeId} (h : Bare w g e) (o : Obj) : Bare (w.alloc o) g e := h.stp ((Below.refl _ w).alloc (Nat.le_refl _) o)

theorem run_append_bare {P : Program} (w : World) (base : Nat) (t ty e : TypeId) (i : TypeInfo) (z : Value) (ht : P.underlying t = some (.slice e)) (hi : P.info? e = some i) (hz : i.zero = some z)
    (hsize : i.size = 1) (hby : i.bytes = 1) (hzs : z.cells.size = 1) (g : Nat) (hg : Bare w g e) (hbg : base ≤ g)
    (xv : Value) (ls : List Int) (hrow : Row .u8 w xv ls) (h63 : ls.length ≤ 10000000) :
    ∃ v' w', (Builtin.append_ #[t, t] ty #[.slice (some ⟨g, 0, none⟩) 0 0, xv]).run P w = .ok v' w' ∧ w'.ownsRow base e 1 v' ls.length (ls.map (Value.int .u8)) ∧ Below w.heap.size w w' ∧
      (v'.ownBlock = some g ∨ v'.ownBlock = some w.heap.size) := by
  have hown : w.ownsRow base e 1 (.slice (some ⟨g, 0, none⟩) 0 0) 0 [] := ⟨rfl, .inr ⟨g, 0, #[], rfl, hbg, hg, Nat.le_refl _, Nat.zero_le _, rfl, rfl⟩⟩
  have hbase : base ≤ w.heap.size := by have := hg.lt; omega
  obtain ⟨ad, cap, rfl, hlc, _, hnc, _, hc⟩ := hrow
  cases ad with
  | none =>
    have hl : ls = [] := by
      apply Classical.byContradiction; intro hne
      obtain ⟨b, off, e', _⟩ := hc hne; cases e'
    subst hl
    obtain rfl : cap = 0 := hnc rfl
    have hrun := run_append_owned_none (P := P) (w := w) base t ty e i 1 ht hi _ 0 _ hown
    exact ⟨_, _, hrun, hown, Below.refl _ _, .inl rfl⟩
  | some ad =>
    have hnews : ∀ j u, (ls.map (Value.int .u8))[j]? = some u → w.cell? (ad.add j) = some u := by
      intro j u hj
      have hjl : j < ls.length := by
        apply Classical.byContradiction; intro hn
        rw [List.getElem?_eq_none (by simp; omega)] at hj; cases hj
      obtain ⟨b, off, e', hb, hcell⟩ := hc (by rintro rfl; simp at hjl)
      cases e'
      rw [List.getElem?_map, List.getElem?_eq_getElem hjl] at hj
      simp only [Option.map_some, Option.some.injEq] at hj
      rw [addr_add, hcell j hjl, ← hj, List.getElem?_eq_getElem hjl]; rfl
    have h1 : ∀ u ∈ ls.map (Value.int .u8), u.oneCell' = true := by
      intro u hu
      obtain ⟨y, _, rfl⟩ := List.mem_map.1 hu
      rfl
    obtain ⟨v', w', hr, ho, hgr, hnil, hat⟩ := run_append_own_at (P := P) w base t ty e i z 1 1 ht hi hz hsize hby hzs (by decide) _ 0 _ hown ad ls.length cap (ls.map (Value.int .u8)) (by simp) hnews h1 (by unfold maxLen; omega) (by omega) hbase
    refine ⟨v', w', hr, by simpa using ho, ⟨hgr.os, hgr.tape, hgr.output, hgr.size, fun k hk => ?_⟩, hat⟩
    by_cases hkg : k = g
    · subst hkg
      by_cases hm : ls = []
      · subst hm
        have hr2 := run_append_room (P := P) w t ty e i ht hi k 0 0 #[] hg ad 0 cap [] (by simp) (by simp) (by simp) (by simp) (by simp)
        rw [show ([] : List Int).length = 0 from rfl] at hr
        rw [hr] at hr2
        injection hr2 with _ hw
        rw [hw, setRow_heap w k #[] _ e _ hg]
        rw [show w.heap[k]? = _ from hg]; simp
      · have hpos := List.length_pos_iff.2 hm
        have hr2 := run_append_grow (P := P) w t ty e i z ht hi hz ⟨k, 0, none⟩ 0 0 [] (by simp) (by simp) ad ls.length cap (ls.map (Value.int .u8)) (by simp [hsize]) hnews (by omega) (by omega) (growslice_fits (by omega) (by rw [hby]; omega))
        rw [hr] at hr2
        injection hr2 with _ hw
        rw [hw]
        exact heap_alloc_old w.drew _ hk
    · exact hgr.block k hk (by simp [Value.ownBlock]; exact fun e => hkg e)

theorem wp_append_bare {P : Program} {w : World} {o : Oper} {a : Act} {K : Act → World → Prop} {Q : Exit → Act → World → Prop} (s x : Operand) (t : TypeId)
    (ho : o.op = .call { callee := .builtin .append, args := #[s, x], argTypes := #[t, t] })
    (e : TypeId) (i : TypeInfo) (z : Value) (ht : P.underlying t = some (.slice e)) (hi : P.info? e = some i) (hz : i.zero = some z)
    (hsize : i.size = 1) (hby : i.bytes = 1) (hzs : z.cells.size = 1) (base g : Nat) (hs : a.eval s = .slice (some ⟨g, 0, none⟩) 0 0) (hg : Bare w g e) (hbg : base ≤ g)
    (xv : Value) (ls : List Int) (hrow : Row .u8 w xv ls) (hx : a.eval x = xv) (h63 : ls.length ≤ 10000000)
    (h : ∀ v' w', w'.ownsRow base e 1 v' ls.length (ls.map (Value.int .u8)) → Below w.heap.size w w' → (v'.ownBlock = some g ∨ v'.ownBlock = some w.heap.size) → K (a.put o.dst v') w') : o.wp P a w K Q := by
  obtain ⟨v', w', hrun, h1, h2, h3⟩ := run_append_bare (P := P) w base t o.type e i z ht hi hz hsize hby hzs g hg hbg xv ls hrow h63
  unfold Oper.wp
  simp [execOp, ho, resolve, invoke, builtin, hs, hx, hrun, Result.andThen]
  exact h v' w' h1 h2 h3
end Go.Proofs.Ytiijlakilogekaa
