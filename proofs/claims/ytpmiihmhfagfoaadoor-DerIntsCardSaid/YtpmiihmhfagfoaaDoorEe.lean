/-
  Walks: slices.Clone of items, der.Seq.
-/
import Derived.Test.YtpmiihmhfagfoaaDoorEd
namespace Go.Proofs.YtpmiihmhfagfoaaDoor
open Go.RowKit

/-- The cells of items that lie in a row. -/
theorem items_cells {W : World} {b : Nat} (hlt : b < W.heap.size) : ∀ {l : List Dm.It} {o : Nat}, ItemsAt W b o l → ∃ xs : List Value, xs.length = l.length * 3 ∧ (∀ j u, xs[j]? = some u → W.cell? ⟨b, o + j, none⟩ = some u) ∧ (∀ u ∈ xs, u.oneCell' = true) ∧
    ∀ (V : World) (b' o' : Nat), Below W.heap.size W V → (∀ j u, xs[j]? = some u → V.cell? ⟨b', o' + j, none⟩ = some u) → ItemsAt V b' o' l
  | [], _, _ => ⟨[], rfl, (fun j u h => by simp at h), (fun u h => by simp at h), fun V b' o' _ _ => by unfold ItemsAt; trivial⟩
  | x :: l, o, h => by
    unfold ItemsAt at h
    obtain ⟨xs, k0, k1, k2, k3⟩ := items_cells hlt h.2
    obtain ⟨ab, cb, al, cl, c0, c1, c2, hp⟩ := h.1.vals
    refine ⟨.int .i64 x.tag :: .slice ab x.b.length cb :: .slice al x.l.length cl :: xs, by simp [k0]; omega, fun j u hj => ?_, fun u hu => ?_, fun V b' o' hb hc => ?_⟩
    · match j, hj with
      | 0, hj => simp at hj; subst hj; exact c0
      | 1, hj => simp at hj; subst hj; exact c1
      | 2, hj => simp at hj; subst hj; exact c2
      | j + 3, hj =>
        have := k1 j u (by simpa using hj)
        rw [show o + (j + 3) = o + 3 + j by omega]; exact this
    · simp only [List.mem_cons] at hu
      rcases hu with rfl | rfl | rfl | hu
      · rfl
      · rfl
      · rfl
      · exact k2 u hu
    · unfold ItemsAt
      refine ⟨ItemAt.of (hc 0 _ rfl) (hc 1 _ rfl) (hc 2 _ rfl) (hp.below hb), k3 V b' (o' + 3) hb fun j u hj => ?_⟩
      rw [show o' + 3 + j = o' + (j + 3) by omega]
      exact hc (j + 3) u (by simpa using hj)
theorem info_item' : (Tryd.prog.info? 25).map (fun i => (i.zero, i.size, i.bytes)) = some (some (.agg #[.int .i64 0, .slice none 0 0, .slice none 0 0]), 3, 56) := by kernel_rfl
/-- Items laid into a row of the call's own. -/
theorem its_of_owns {V : World} {l : List Dm.It} {xs : List Value} {base : Nat} {e : TypeId} {v : Value}
    (hk : ∀ (b' o' : Nat), (∀ j u, xs[j]? = some u → V.cell? ⟨b', o' + j, none⟩ = some u) → ItemsAt V b' o' l) (ho : V.ownsRow base e 3 v l.length xs) : ItsV V v l := by
  rcases ho.2 with ⟨rfl, h0⟩ | ⟨g, cap, cur, rfl, hb, hg, h1, h2, h3, h4⟩
  · have : l = [] := List.eq_nil_of_length_eq_zero h0
    subst this
    exact ItsV.nil _
  · refine ⟨_, _, rfl, h1, h2, (fun h => by cases h), fun _ => ⟨g, 0, rfl, (Array.getElem?_eq_some_iff.1 hg).1, hk g 0 fun j u hj => ?_⟩⟩
    have := ho.cells (g := g) rfl j u hj
    rwa [addr_add] at this

set_option maxHeartbeats 1000000 in
theorem CloneI_of (w0 : World) (v : Value) (l : List Dm.It) (w : World) (hw : Below w0.heap.size w0 w) (h : ItsV w0 v l) (hlen : l.length ≤ 1000000) :
    Calls Tryd.prog 55 #[v] w fun e w' => (∃ r, e = .returned r ∧ (∀ V, Below w0.heap.size w0 V → (∀ g, r.ownBlock = some g → V.heap[g]? = w'.heap[g]?) → ItsV V r l) ∧ (∀ g, r.ownBlock = some g → w.heap.size ≤ g) ∧ ∃ a c, r = .slice a l.length c) ∧ Below w.heap.size w w' := by
  have hq := Lib.run_eql_slice_nil (P := Tryd.prog) (t := 23) (e := 25)
  obtain ⟨j0, gi, gz0, gz1, gz2⟩ := info_parts info_item'
  obtain ⟨a, cap, rfl, hl, hc, h0, hr⟩ := h
  cases a with
  | none =>
    obtain rfl : cap = 0 := h0 rfl
    obtain rfl : l = [] := List.length_eq_zero_iff.1 (by omega)
    clear h0 hr
    go_enter Tryd.func55, Tryd.ntmps55
    go_wp2
    go_ret
    exact ⟨⟨_, rfl, fun V _ _ => ItsV.nil _, (fun g h => by cases h), _, _, rfl⟩, Below.refl _ _⟩
  | some ad =>
    have hx : ∃ xs : List Value, xs.length = l.length * 3 ∧ (∀ j u, xs[j]? = some u → w0.cell? (ad.add j) = some u) ∧ (∀ u ∈ xs, u.oneCell' = true) ∧
        ∀ (V : World) (b' o' : Nat), Below w0.heap.size w0 V → (∀ j u, xs[j]? = some u → V.cell? ⟨b', o' + j, none⟩ = some u) → ItemsAt V b' o' l := by
      by_cases hne : l = []
      · subst hne
        exact ⟨[], rfl, (fun j u h => by simp at h), (fun u h => by simp at h), fun V b' o' _ _ => by unfold ItemsAt; trivial⟩
      · obtain ⟨b, o, e, hlt, hi⟩ := hr hne
        cases e
        obtain ⟨xs, k0, k1, k2, k3⟩ := items_cells hlt hi
        exact ⟨xs, k0, fun j u hj => by rw [addr_add]; exact k1 j u hj, k2, k3⟩
    obtain ⟨xs, k0, k1, k2, k3⟩ := hx
    have own0 : (w.alloc (.cells #[] 25)).ownsRow w.heap.size 25 3 (.slice (some ⟨w.heap.size, 0, none⟩) 0 0) 0 [] :=
      World.ownsRow_made w #[] 0 (Nat.le_refl _) (Nat.zero_le _) rfl
    have k1' : ∀ j u, xs[j]? = some u → (w.alloc (.cells #[] 25)).cell? (ad.add j) = some u := fun j u hj => by
      have h1 := k1 j u hj
      have hlt := World.block_lt_of_cell? w0 _ h1
      exact ((hw.alloc hw.size (.cells #[] 25)).cell hlt).trans h1
    have hb0 := (Below.refl w.heap.size w).alloc (Nat.le_refl _) (.cells #[] 25)
    have HX := Lib.hid k0; have HK := Lib.hid k1'; have HO := Lib.hid k2; have HI := Lib.hid k3; have HOwn := Lib.hid own0; have HB := Lib.hid hb0
    clear h0 hr k0 k1 k2 k3 k1' own0 hb0
    obtain ⟨n, hn⟩ : ∃ n, l.length = n := ⟨_, rfl⟩
    rw [hn] at hl hlen ⊢
    have HN := Lib.hid hn
    clear hn
    go_enter Tryd.func55, Tryd.ntmps55
    go_wp2_with (at_builtin; refine wpList_append_own_at _ rfl _ _ 23 rfl w.heap.size 25 j0 (.agg #[.int .i64 0, .slice none 0 0, .slice none 0 0]) 3 56 Tryd.underlying23 gi gz0 gz1 gz2 rfl (by decide) _ 0 [] rfl HOwn.out ad n cap xs rfl (by rw [HX.out, HN.out]) HK.out HO.out (by unfold maxLen; omega) (by omega) (by simp) ?_; intro v' w5 own5 hgrow _ hat)
    go_ret
    have hb5 : Below w.heap.size w w5 := HB.out.grown hgrow (by simp) (fun k e => by cases e; exact Nat.le_refl _)
    rw [Nat.zero_add, List.nil_append, ← HN.out] at own5
    obtain ⟨a5, n5, c5, rfl⟩ := owns_slice own5
    have hn5 : n5 = l.length := by
      rcases own5.2 with ⟨h1, h2⟩ | ⟨g', cap', cur, h1, _⟩
      · cases h1; omega
      · cases h1; rfl
    subst hn5
    exact ⟨⟨_, rfl, fun V hV hg => its_of_owns (fun b' o' hc => HI.out V b' o' hV hc) ⟨own5.1, own5.2.imp_right (by
      rintro ⟨g, cap', cur, e, q1, q2, r⟩
      exact ⟨g, cap', cur, e, q1, (hg g (by rw [e]; rfl)).trans q2, r⟩)⟩, fun g hg => (own_at own5 hg).1, _, _, by rw [HN.out]; rfl⟩, hb5⟩
theorem CloneI_any (v : Value) (l : List Dm.It) (w : World) (h : ItsV w v l) (hlen : l.length ≤ 1000000) :
    Calls Tryd.prog 55 #[v] w fun e w' => (∃ r, e = .returned r ∧ ItsV w' r l) ∧ Below w.heap.size w w' :=
  (CloneI_of w v l w (Below.refl _ _) h hlen).mono fun _ w' ⟨⟨r, he, hi, _⟩, hb⟩ => ⟨⟨r, he, hi w' hb fun _ _ => rfl⟩, hb⟩

set_option maxRecDepth 100000 in
theorem Seq_mk (v : Value) (l : List Dm.It) (w : World) (h : ItsV w v l) (hlen : l.length ≤ 1000000) :
    Calls Tryd.prog 24 #[v] w fun e w' => (∃ a c, e = .returned (.agg #[.int .i64 48, .slice none 0 0, .slice a l.length c]) ∧
      ItP w' (.slice none 0 0) (.slice a l.length c) (.mk 48 [] l)) ∧ Below w.heap.size w w' := by
  obtain ⟨B, hB⟩ : ∃ B, w.heap.size = B := ⟨_, rfl⟩
  rw [hB]
  have q0 := Trip.new w 25 (.int .i64 0) (.slice none 0 0) (.slice none 0 0)
  have hb0 := (Below.refl w.heap.size w).alloc (Nat.le_refl _) (.cells #[.int .i64 0, .slice none 0 0, .slice none 0 0] 25)
  obtain ⟨W, hW⟩ : ∃ W, w.alloc (.cells #[.int .i64 0, .slice none 0 0, .slice none 0 0] 25) = W := ⟨_, rfl⟩
  rw [hW] at q0 hb0
  have hCl := CloneI_of w v l W hb0 h hlen
  rw [hB] at q0 hb0
  have HW := Lib.hid hW
  clear hW h
  go_enter Tryd.func24, Tryd.ntmps24
  go_wp2_with fail
  rw [HW.out]
  (try rw [hB])
  (try go_wp2_with fail)
  refine hCl.mono ?_; rintro e w4 ⟨⟨r, rfl, hi, hg, ar, cr, rfl⟩, hb4⟩
  have hlt := q0.lt
  have q4 := trip_stp q0 hb4
  have hB4 := hb0.trans (hb4.mono (Nat.le_of_lt hlt))
  have HI := Lib.hid hi; have Q4 := Lib.hid q4; have HB4 := Lib.hid hB4; have HG := Lib.hid hg
  clear hCl hi hB4 hb4 q0 hb0 hg
  have f0 := q4.free 0; have f1 := q4.free 1; have f2 := q4.free 2; have x0 := q4.cell0; have x1 := q4.cell1; have x2 := q4.cell2; have xl := q4.lt
  clear q4
  go_wp2_with fail
  refine bodyPost_ret (item_ret1 rfl rfl (trip3 Q4.out _ _ _)) rfl ?_
  have hb5 := bel3' HB4.out (Nat.le_refl B) (.int .i64 48) (.slice none 0 0) (.slice ar l.length cr)
  refine ⟨⟨ar, cr, rfl, (show (Lit.int .i64 48).wf = true by decide), Row.nil _ _, HI.out _ (by rw [hB]; exact hb5) fun g hg => ?_⟩, hb5⟩
  have := HG.out g hg
  exact ((Below.heap_setCell _ ⟨B, 2, none⟩ _ g (show g ≠ B by omega)).trans (Below.heap_setCell _ ⟨B, 1, none⟩ _ g (show g ≠ B by omega))).trans (Below.heap_setCell _ ⟨B, 0, none⟩ _ g (show g ≠ B by omega))
end Go.Proofs.YtpmiihmhfagfoaaDoor
