/-
  An append to an own row of bytes: which blocks it leaves, and where the row lies then; slices.Clone of bytes.
-/
import Derived.Test.YtfdchdnkblmijaaGreatDoorDc
namespace Go.Proofs.YtfdchdnkblmijaaGreatDoor
open Go.RowKit

abbrev OwnB (w : World) (base : Nat) (v : Value) (l : List Int) : Prop := w.ownsRow base 5 1 v l.length (l.map (Value.int .u8))
/-- What an append leaves. -/
structure Appd (w w' : World) (base : Nat) (v v' : Value) (l : List Int) : Prop where
  own : OwnB w' base v' l
  grown : w.grownBy w' v.ownBlock
  blk : v'.ownBlock = v.ownBlock ∨ v'.ownBlock = some w.heap.size
theorem run_append_keep {w : World} (base : Nat) (ty : TypeId) (v : Value) (ms ns : List Int) (hown : OwnB w base v ms) (xv : Value) (hrow : Row .u8 w xv ns) (h63 : ms.length + ns.length ≤ 10000000) (hbase : base ≤ w.heap.size) :
    ∃ v' w', (Builtin.append_ #[25, 25] ty #[v, xv]).run Tryz.prog w = .ok v' w' ∧ Appd w w' base v v' (ms ++ ns) := by
  obtain ⟨i0, hi, hz0, hz1, hz2⟩ := info_parts info_u8
  obtain ⟨ad, cap, rfl, hlc, _, hnc, _, hc⟩ := hrow
  cases ad with
  | none =>
    have hl : ns = [] := by
      apply Classical.byContradiction; intro hne
      obtain ⟨b, off, e', _⟩ := hc hne; cases e'
    subst hl
    obtain rfl : cap = 0 := hnc rfl
    refine ⟨v, w, run_append_owned_none (P := Tryz.prog) (w := w) base _ ty 5 i0 1 Tryz.underlying25 hi v ms.length _ hown, by simpa [OwnB] using hown, ⟨rfl, rfl, rfl, Nat.le_refl _, fun _ _ _ => rfl⟩, .inl rfl⟩
  | some ad =>
    have hnews : ∀ j u, (ns.map (Value.int .u8))[j]? = some u → w.cell? (ad.add j) = some u := by
      intro j u hj
      have hjl : j < ns.length := by
        apply Classical.byContradiction; intro hn
        rw [List.getElem?_eq_none (by simp; omega)] at hj; cases hj
      obtain ⟨b, off, e', hb, hcell⟩ := hc (by rintro rfl; simp at hjl)
      cases e'
      rw [List.getElem?_map, List.getElem?_eq_getElem hjl] at hj
      simp only [Option.map_some, Option.some.injEq] at hj
      rw [addr_add, hcell j hjl, ← hj, List.getElem?_eq_getElem hjl]; rfl
    have h1 : ∀ u ∈ ns.map (Value.int .u8), u.oneCell' = true := by
      intro u hu
      obtain ⟨y, _, rfl⟩ := List.mem_map.1 hu
      rfl
    obtain ⟨v', w', hr, h2, h3, h4⟩ := run_append_own (P := Tryz.prog) w base 25 ty 5 i0 (.int .u8 0) 1 1 Tryz.underlying25 hi hz0 hz1 hz2 rfl (by decide) v ms.length _ hown ad ns.length cap (ns.map (Value.int .u8)) (by simp) hnews h1 (by unfold maxLen; omega) (by omega) hbase
    refine ⟨v', w', hr, ⟨by unfold OwnB; rw [List.length_append, List.map_append]; exact h2, h3, ?_⟩⟩
    rcases hown.2 with ⟨rfl, h0⟩ | ⟨g, cp, cur, rfl, hbg, hg, hnc', hcm, hcs, htake⟩
    · by_cases hm : ns.length = 0
      · have := h4.2 ⟨rfl, hm⟩
        subst this; exact .inl rfl
      · have hr2 := run_append_nil (P := Tryz.prog) w 25 ty 5 i0 (.int .u8 0) Tryz.underlying25 hi hz0 ad ns.length cap (ns.map (Value.int .u8)) (by simp [hz1]) hnews (by omega) (by omega) (by rw [hz2]; omega)
        rw [hr2] at hr
        injection hr with hr _
        subst hr; exact .inr rfl
    · by_cases hroom : ms.length + ns.length ≤ cp
      · have hr2 := run_append_room (P := Tryz.prog) w 25 ty 5 i0 Tryz.underlying25 hi g ms.length cp cur hg ad ns.length cap (ns.map (Value.int .u8)) (by simp [hz1]) hnews h1 hroom (by rw [hz1, hcs]; simp; omega)
        rw [hr2] at hr
        injection hr with hr _
        subst hr; exact .inl rfl
      · have holds := hown.cells (g := g) rfl
        have hr2 := run_append_grow (P := Tryz.prog) w 25 ty 5 i0 (.int .u8 0) Tryz.underlying25 hi hz0 ⟨g, 0, none⟩ ms.length cp (ms.map (Value.int .u8)) (by simp [hz1]) holds ad ns.length cap (ns.map (Value.int .u8)) (by simp [hz1]) hnews (by omega) (by omega) (growslice_fits (by omega) (by rw [hz2]; omega))
        rw [hr2] at hr
        injection hr with hr _
        subst hr; exact .inr rfl
theorem wp_app {w : World} {o : Oper} {a : Act} {K : Act → World → Prop} {Q : Exit → Act → World → Prop} (s x : Operand)
    (ho : o.op = .call { callee := .builtin .append, args := #[s, x], argTypes := #[25, 25] }) (base : Nat) (hbase : base ≤ w.heap.size)
    (v : Value) (ms : List Int) (hs : a.eval s = v) (hown : OwnB w base v ms) (xv : Value) (ns : List Int) (hrow : Row .u8 w xv ns) (hx : a.eval x = xv) (h63 : ms.length + ns.length ≤ 10000000)
    (h : ∀ v' w', Appd w w' base v v' (ms ++ ns) → K (a.put o.dst v') w') : o.wp Tryz.prog a w K Q := by
  obtain ⟨v', w', hr, h2⟩ := run_append_keep base o.type v ms ns hown xv hrow h63 hbase
  unfold Oper.wp
  simp [execOp, ho, resolve, invoke, builtin, hs, hx, hr, Result.andThen]
  exact h v' w' h2
/-- Two slices do not lie in one block. -/
def Apart2 (v u : Value) : Prop := ∀ g, v.ownBlock = some g → u.ownBlock ≠ some g
theorem Appd.below {w w' : World} {base : Nat} {v v' : Value} {l ms : List Int} (h : Appd w w' base v v' l) (hown : OwnB w base v ms) (hb : base ≤ w.heap.size) : Below base w w' :=
  (Below.refl base w).grown h.grown hb fun _ e => own_above hown e
theorem Appd.size {w w' : World} {base : Nat} {v v' : Value} {l : List Int} (h : Appd w w' base v v' l) : w.heap.size ≤ w'.heap.size := h.grown.size
theorem Appd.apart {w w' : World} {base : Nat} {v v' u : Value} {l : List Int} (h : Appd w w' base v v' l) (ha : Apart2 v u) (hu : ∀ g, u.ownBlock = some g → g < w.heap.size) : Apart2 v' u := by
  intro g hg e
  rcases h.blk with hk | hk
  · exact ha g (hk ▸ hg) e
  · rw [hk] at hg
    injection hg with hg
    have := hu g e
    omega
/-- A row elsewhere is kept. -/
theorem Appd.row {w w' : World} {base : Nat} {v v' u : Value} {l ns : List Int} (h : Appd w w' base v v' l) (ha : Apart2 v u) (hr : Row .u8 w u ns) : Row .u8 w' u ns := by
  obtain ⟨a, cap, h1, h2, h3, h0, h4, h5⟩ := hr
  refine ⟨a, cap, h1, h2, h3, h0, h4, fun hne => ?_⟩
  obtain ⟨b, off, e, hlt, hc⟩ := h5 hne
  subst e
  have hk : w'.heap[b]? = w.heap[b]? := h.grown.block b hlt (fun e => ha b e.symm (by rw [h1]; rfl))
  exact ⟨b, off, rfl, Nat.lt_of_lt_of_le hlt h.grown.size, fun i hi => (World.cell?_of_block hk).trans (hc i hi)⟩
theorem Row.blk_lt {w : World} {v : Value} {l : List Int} (hr : Row .u8 w v l) (hne : l ≠ []) : ∀ g, v.ownBlock = some g → g < w.heap.size := by
  intro g hg
  obtain ⟨a, cap, rfl, _, _, _, _, h5⟩ := hr
  obtain ⟨b, off, rfl, hlt, _⟩ := h5 hne
  simp [Value.ownBlock] at hg; omega
theorem OwnB.blk {w : World} {base : Nat} {v : Value} {l : List Int} (h : OwnB w base v l) : ∀ g, v.ownBlock = some g → base ≤ g ∧ g < w.heap.size := fun g hg => World.ownsRow.lt h g hg

set_option maxHeartbeats 1000000 in
theorem Clone8_any (v : Value) (l : List Int) (w : World) (h : Row .u8 w v l) (hlen : l.length ≤ 10000000) :
    Calls Tryz.prog 53 #[v] w fun e w' => ∃ r, e = .returned r ∧ OwnB w' w.heap.size r l ∧ Below w.heap.size w w' := by
  have H := Lib.hid h
  have hq := Lib.run_eql_slice_nil (P := Tryz.prog) (t := 25) (e := 5)
  obtain ⟨a, cap, rfl, hl, hc, h0, -, hr⟩ := h
  cases a with
  | none =>
    obtain rfl : cap = 0 := h0 rfl
    obtain rfl : l = [] := List.length_eq_zero_iff.1 (by omega)
    clear h0 hr
    go_enter Tryz.func53, Tryz.ntmps53
    go_wp2
    go_ret
    exact ⟨_, rfl, World.ownsRow_nil _ _ _ _, Below.refl _ _⟩
  | some ad =>
    clear h0 hr
    have own0 : OwnB (w.alloc (.cells #[] 5)) w.heap.size (.slice (some ⟨w.heap.size, 0, none⟩) 0 0) [] := owns_empty w w.heap.size 5 (Nat.le_refl _)
    go_enter Tryz.func53, Tryz.ntmps53
    go_wp2_with (at_builtin; refine wpList_plain rfl fun Kx hKx => ?_; refine wp_app _ _ rfl w.heap.size (by simp) _ [] rfl own0 _ l (H.out.alloc _) rfl (by simp; omega) ?_; intro v4 w4 ap; refine hKx _ _ ?_)
    go_ret
    exact ⟨_, rfl, ap.own, ((Below.refl _ w).alloc (Nat.le_refl _) _).trans (ap.below own0 (by simp))⟩
end Go.Proofs.YtfdchdnkblmijaaGreatDoor
