/-
  An append of slices of numbers to a slice of such slices that the call itself owns.
-/
import Derived.Test.YtiijlakilogekaaRw
import Derived.Laws.AppendOwnNone
import Derived.Maps.AppendAt
namespace Go.Proofs.Ytiijlakilogekaa
open Go.RowKit

/-- The values vs are the rows ls. -/
def Vals (k : IntKind) (w : World) (vs : List Value) (ls : List (List Int)) : Prop := vs.length = ls.length ∧ ∀ i, i < ls.length → Row k w (vs[i]?.getD undef) (ls[i]?.getD [])
theorem Vals.nil (k : IntKind) (w : World) : Vals k w [] [] := ⟨rfl, fun _ h => absurd h (Nat.not_lt_zero _)⟩
theorem Vals.append {k : IntKind} {w : World} {xs ys : List Value} {ls ms : List (List Int)} (h : Vals k w xs ls) (g : Vals k w ys ms) : Vals k w (xs ++ ys) (ls ++ ms) := by
  refine ⟨by simp [h.1, g.1], fun i hi => ?_⟩
  by_cases hlt : i < ls.length
  · rw [List.getElem?_append_left (by rw [h.1]; exact hlt), List.getElem?_append_left hlt]; exact h.2 i hlt
  · rw [List.getElem?_append_right (by rw [h.1]; omega), List.getElem?_append_right (by omega), h.1]
    exact g.2 _ (by simp at hi; omega)
/-- Its cells lie so in w, the rows in w0. -/
def RwsAt (k : IntKind) (w0 w : World) (v : Value) (ls : List (List Int)) : Prop :=
  ∃ a cap, ∃ vs : List Value, v = .slice a ls.length cap ∧ (a = none → cap = 0 ∧ ls = []) ∧ Vals k w0 vs ls ∧ (ls ≠ [] → ∃ b off, a = some ⟨b, off, none⟩ ∧ ∀ i, i < ls.length → w.cell? ⟨b, off + i, none⟩ = some (vs[i]?.getD undef))
theorem Rws.at' {k : IntKind} {w0 w : World} {v : Value} {ls : List (List Int)} (h : Rws k w0 v ls) (hb : Below w0.heap.size w0 w) : RwsAt k w0 w v ls := by
  obtain ⟨a, cap, V, e, hl, hc, hn, hr, hv⟩ := h
  refine ⟨a, cap, (List.range ls.length).map V, e, fun h => ?_, ⟨by simp, fun i hi => ?_⟩, fun hne => ?_⟩
  · have h0 := hn h
    exact ⟨h0, List.length_eq_zero_iff.1 (by omega)⟩
  · rw [List.getElem?_map, List.getElem?_range hi]; exact hv i hi
  · obtain ⟨b, off, e, hlt, hx⟩ := hr hne
    refine ⟨b, off, e, fun i hi => ?_⟩
    rw [List.getElem?_map, List.getElem?_range hi]
    exact (hb.cell (p := ⟨b, off + i, none⟩) hlt).trans (hx i hi)
/-- One row, just built. -/
theorem RwsAt.one {k : IntKind} {w0 w : World} {v : Value} {l : List Int} (t : TypeId) (h : Row k w0 v l) : RwsAt k w0 (w.alloc (.cells #[v] t)) (.slice (some ⟨w.heap.size, 0, none⟩) 1 1) [l] := by
  refine ⟨_, _, [v], rfl, (fun h => by cases h), ⟨rfl, fun i hi => ?_⟩, fun _ => ⟨_, _, rfl, fun i hi => ?_⟩⟩
  · obtain rfl : i = 0 := by simp at hi; omega
    exact h
  · obtain rfl : i = 0 := by simp at hi; omega
    have hh : (w.alloc (.cells #[v] t)).heap[w.heap.size]? = some (.cells #[v] t) := by
      show (w.heap.push _)[w.heap.size]? = _
      simp
    show World.cell? _ ⟨w.heap.size, 0 + 0, none⟩ = some v
    unfold World.cell?
    rw [hh]; rfl

theorem own_above' {w : World} {base : Nat} {e : TypeId} {size n k : Nat} {v : Value} {xs : List Value} (h : w.ownsRow base e size v n xs) (hk : v.ownBlock = some k) : base ≤ k := by
  rcases h.2 with ⟨rfl, _⟩ | ⟨g, cap, cur, rfl, hg, _⟩
  · simp [Value.ownBlock] at hk
  · simp [Value.ownBlock] at hk; omega

theorem wp_append_rws {P : Program} {w0 w : World} {o : Oper} {a : Act} {K : Act → World → Prop} {Q : Exit → Act → World → Prop} (s x : Operand) (t : TypeId)
    (ho : o.op = .call { callee := .builtin .append, args := #[s, x], argTypes := #[t, t] })
    (e : TypeId) (i : TypeInfo) (z : Value) (ht : P.underlying t = some (.slice e)) (hi : P.info? e = some i) (hz : i.zero = some z)
    (hsize : i.size = 1) (hby : i.bytes = 24) (hzs : z.cells.size = 1) (k : IntKind) (hb0 : Below w0.heap.size w0 w)
    (v : Value) (xs : List Value) (ms : List (List Int)) (hs : a.eval s = v) (hown : w.ownsRow w0.heap.size e 1 v ms.length xs) (hxs : Vals k w0 xs ms)
    (xv : Value) (ls : List (List Int)) (hrow : RwsAt k w0 w xv ls) (hx : a.eval x = xv) (h63 : ms.length + ls.length ≤ 1000000)
    (h : ∀ v' w' ys, w'.ownsRow w0.heap.size e 1 v' (ms ++ ls).length ys → Vals k w0 ys (ms ++ ls) → Below w0.heap.size w0 w' → K (a.put o.dst v') w') : o.wp P a w K Q := by
  obtain ⟨ad, cap, vs, rfl, hn, hv, hc⟩ := hrow
  cases ad with
  | none =>
    obtain ⟨rfl, rfl⟩ := hn rfl
    have hrun := run_append_owned_none (P := P) (w := w) w0.heap.size t o.type e i 1 ht hi v ms.length xs hown
    unfold Oper.wp
    simp [execOp, ho, resolve, invoke, builtin, hs, hx, hrun, Result.andThen]
    exact h v w xs (by simpa using hown) (by simpa using hxs) hb0
  | some ad =>
    refine wp_append_own w s x t ho w0.heap.size e i z 1 24 ht hi hz hsize hby hzs (by decide) v ms.length xs hs hown ad ls.length cap vs hx (by rw [hv.1]; omega) ?_ ?_ (by unfold maxLen; omega) (by omega) hb0.size ?_
    · intro j u hj
      have hjl : j < ls.length := by
        rw [← hv.1]
        apply Classical.byContradiction; intro hn
        rw [List.getElem?_eq_none (by omega)] at hj; cases hj
      obtain ⟨b, off, e', hcell⟩ := hc (by rintro rfl; simp at hjl)
      cases e'
      rw [addr_add, hcell j hjl, hj]; rfl
    · intro u hu
      obtain ⟨j, hj, rfl⟩ := List.getElem_of_mem hu
      have := hv.2 j (by rw [← hv.1]; exact hj)
      rw [List.getElem?_eq_getElem hj] at this
      obtain ⟨a', c', e', -⟩ := this
      simp only [Option.getD_some] at e'
      rw [e']; rfl
    · intro v' w' h1 h2 _
      exact h v' w' (xs ++ vs) (by rw [List.length_append]; exact h1) (hxs.append hv) (hb0.grown h2 hb0.size fun k e => own_above' hown e)
/-- What has been put together. -/
theorem Rws.of_vals {k : IntKind} {w0 w : World} {e : TypeId} {v : Value} {xs : List Value} {ls : List (List Int)} (h : w.ownsRow w0.heap.size e 1 v ls.length xs) (hv : Vals k w0 xs ls) (hb : Below w0.heap.size w0 w) : Rws k w v ls :=
  Rws.of_owns h fun i hi => (hv.2 i hi).below hb
end Go.Proofs.Ytiijlakilogekaa
