/-
  An append of bytes to a slice of bytes that the call itself owns, as one step; what it leaves of boxes of another type.
-/
import Derived.Test.YtiijlakilogekaaWt
import Derived.Laws.AppendOwnNone
import Derived.Maps.AppendAt
namespace Go.Proofs.Ytiijlakilogekaa
open Go.RowKit

theorem own_other {w w' : World} {base : Nat} {e t : TypeId} {n B : Nat} {v x y : Value} {xs : List Value} (h : w.ownsRow base e 1 v n xs) (hg : w.grownBy w' v.ownBlock) (hd : Duo w B t x y) (hne : t ≠ e) : Duo w' B t x y := by
  refine (hg.block B hd.lt ?_).trans hd
  intro ee
  rcases h.2 with ⟨rfl, _⟩ | ⟨g, cap, cur, rfl, _, hh, _⟩
  · simp [Value.ownBlock] at ee
  · simp [Value.ownBlock] at ee
    subst ee
    rw [show w.heap[B]? = _ from hd] at hh
    injection hh with hh
    injection hh with _ h2
    exact hne h2
theorem wp_append_bytes {P : Program} {w0 w : World} {o : Oper} {a : Act} {K : Act → World → Prop} {Q : Exit → Act → World → Prop} (s x : Operand) (t : TypeId)
    (ho : o.op = .call { callee := .builtin .append, args := #[s, x], argTypes := #[t, t] })
    (e : TypeId) (i : TypeInfo) (z : Value) (ht : P.underlying t = some (.slice e)) (hi : P.info? e = some i) (hz : i.zero = some z)
    (hsize : i.size = 1) (hby : i.bytes = 1) (hzs : z.cells.size = 1) (hb0 : Below w0.heap.size w0 w)
    (v : Value) (ms : List Int) (hs : a.eval s = v) (hown : w.ownsRow w0.heap.size e 1 v ms.length (ms.map (Value.int .u8)))
    (xv : Value) (ls : List Int) (hrow : Row .u8 w0 xv ls) (hx : a.eval x = xv) (h63 : ms.length + ls.length ≤ 10000000)
    (h : ∀ v' w', w'.ownsRow w0.heap.size e 1 v' (ms ++ ls).length ((ms ++ ls).map (Value.int .u8)) → Below w0.heap.size w0 w' → w.heap.size ≤ w'.heap.size → (∀ B t x y, t ≠ e → Duo w B t x y → Duo w' B t x y) → K (a.put o.dst v') w') : o.wp P a w K Q := by
  obtain ⟨ad, cap, rfl, hlc, _, hnc, _, hc⟩ := hrow.below hb0
  cases ad with
  | none =>
    have hl : ls = [] := by
      apply Classical.byContradiction; intro hne
      obtain ⟨b, off, e', _⟩ := hc hne; cases e'
    subst hl
    obtain rfl : cap = 0 := hnc rfl
    have hrun := run_append_owned_none (P := P) (w := w) w0.heap.size t o.type e i 1 ht hi v ms.length _ hown
    unfold Oper.wp
    simp [execOp, ho, resolve, invoke, builtin, hs, hx, hrun, Result.andThen]
    exact h v w (by simpa using hown) hb0 (Nat.le_refl _) fun _ _ _ _ _ hd => hd
  | some ad =>
    refine wp_append_own w s x t ho w0.heap.size e i z 1 1 ht hi hz hsize hby hzs (by decide) v ms.length _ hs hown ad ls.length cap (ls.map (Value.int .u8)) hx (by simp) ?_ ?_ (by unfold maxLen; omega) (by omega) hb0.size ?_
    · intro j u hj
      have hjl : j < ls.length := by
        apply Classical.byContradiction; intro hn
        rw [List.getElem?_eq_none (by simp; omega)] at hj; cases hj
      obtain ⟨b, off, e', hb, hcell⟩ := hc (by rintro rfl; simp at hjl)
      cases e'
      rw [List.getElem?_map, List.getElem?_eq_getElem hjl] at hj
      simp only [Option.map_some, Option.some.injEq] at hj
      rw [addr_add, hcell j hjl, ← hj, List.getElem?_eq_getElem hjl]; rfl
    · intro u hu
      obtain ⟨y, _, rfl⟩ := List.mem_map.1 hu
      rfl
    · intro v' w' h1 h2 _
      exact h v' w' (by rw [List.length_append, List.map_append]; exact h1) (hb0.grown h2 hb0.size fun k e => own_above hown e) h2.size fun _ _ _ _ hne hd => own_other hown h2 hd hne
theorem wp_append_bytes2 {P : Program} {w : World} {o : Oper} {a : Act} {K : Act → World → Prop} {Q : Exit → Act → World → Prop} (s x : Operand) (t : TypeId)
    (ho : o.op = .call { callee := .builtin .append, args := #[s, x], argTypes := #[t, t] })
    (e : TypeId) (i : TypeInfo) (z : Value) (ht : P.underlying t = some (.slice e)) (hi : P.info? e = some i) (hz : i.zero = some z)
    (hsize : i.size = 1) (hby : i.bytes = 1) (hzs : z.cells.size = 1) (base : Nat) (hb0 : base ≤ w.heap.size)
    (v : Value) (ms : List Int) (hs : a.eval s = v) (hown : w.ownsRow base e 1 v ms.length (ms.map (Value.int .u8)))
    (xv : Value) (ls : List Int) (hrow : Row .u8 w xv ls) (hx : a.eval x = xv) (h63 : ms.length + ls.length ≤ 10000000)
    (h : ∀ v' w', w'.ownsRow base e 1 v' (ms ++ ls).length ((ms ++ ls).map (Value.int .u8)) → Below base w w' → w.heap.size ≤ w'.heap.size → (∀ B t x y, t ≠ e → Duo w B t x y → Duo w' B t x y) → K (a.put o.dst v') w') : o.wp P a w K Q := by
  obtain ⟨ad, cap, rfl, hlc, _, hnc, _, hc⟩ := hrow
  cases ad with
  | none =>
    have hl : ls = [] := by
      apply Classical.byContradiction; intro hne
      obtain ⟨b, off, e', _⟩ := hc hne; cases e'
    subst hl
    obtain rfl : cap = 0 := hnc rfl
    have hrun := run_append_owned_none (P := P) (w := w) base t o.type e i 1 ht hi v ms.length _ hown
    unfold Oper.wp
    simp [execOp, ho, resolve, invoke, builtin, hs, hx, hrun, Result.andThen]
    exact h v w (by simpa using hown) (Below.refl _ _) (Nat.le_refl _) fun _ _ _ _ _ hd => hd
  | some ad =>
    refine wp_append_own w s x t ho base e i z 1 1 ht hi hz hsize hby hzs (by decide) v ms.length _ hs hown ad ls.length cap (ls.map (Value.int .u8)) hx (by simp) ?_ ?_ (by unfold maxLen; omega) (by omega) hb0 ?_
    · intro j u hj
      have hjl : j < ls.length := by
        apply Classical.byContradiction; intro hn
        rw [List.getElem?_eq_none (by simp; omega)] at hj; cases hj
      obtain ⟨b, off, e', hb, hcell⟩ := hc (by rintro rfl; simp at hjl)
      cases e'
      rw [List.getElem?_map, List.getElem?_eq_getElem hjl] at hj
      simp only [Option.map_some, Option.some.injEq] at hj
      rw [addr_add, hcell j hjl, ← hj, List.getElem?_eq_getElem hjl]; rfl
    · intro u hu
      obtain ⟨y, _, rfl⟩ := List.mem_map.1 hu
      rfl
    · intro v' w' h1 h2 _
      exact h v' w' (by rw [List.length_append, List.map_append]; exact h1) ((Below.refl base w).grown h2 hb0 fun k e => own_above hown e) h2.size fun _ _ _ _ hne hd => own_other hown h2 hd hne
theorem own_off {w : World} {base : Nat} {e t : TypeId} {n g : Nat} {v x y : Value} {xs : List Value} (h : w.ownsRow base e 1 v n xs) (hd : Duo w g t x y) (hne : t ≠ e) : Off g v := by
  intro b o l c ev _ eg
  subst eg
  rcases h.2 with ⟨rfl, _⟩ | ⟨k, cap, cur, rfl, _, hh, _⟩
  · cases ev
  · injection ev with ev
    injection ev with ev
    injection ev with ev
    subst ev
    rw [show w.heap[k]? = _ from hd] at hh
    injection hh with hh
    injection hh with _ h2
    exact hne h2
theorem owns_empty' (w : World) (base : Nat) (e : TypeId) (g : Nat) (h : base ≤ w.heap.size) (hg : g = w.heap.size) : (w.alloc (.cells #[] e)).ownsRow base e 1 (.slice (some ⟨g, 0, none⟩) 0 0) 0 [] := by
  subst hg; exact owns_empty w base e h
theorem info_byte20 : (Try.prog.info? 5).map (fun i => (i.zero, i.size, i.bytes)) = some (some (.int .u8 0), 1, 1) := by kernel_rfl
theorem row_of_owned {w : World} {base : Nat} {v : Value} {l : List Int} (h : w.ownsRow base 5 1 v l.length (l.map (Value.int .u8))) (hl : ∀ x ∈ l, byte x) : ∃ a c, v = .slice a l.length c ∧ Row .u8 w (.slice a l.length c) l ∧ Past base (.slice a l.length c) := by
  have r := Row.of_bytes h hl
  obtain ⟨a, c, e⟩ := r.shape l.length rfl
  subst e
  exact ⟨a, c, rfl, r, fun b o n c' e => own_above h (by rw [e]; rfl)⟩
end Go.Proofs.Ytiijlakilogekaa
