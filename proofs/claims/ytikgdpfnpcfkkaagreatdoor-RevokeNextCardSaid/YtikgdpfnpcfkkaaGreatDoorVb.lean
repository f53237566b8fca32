/-
  slices.Insert of one number into numbers that the call owns.
-/
import Derived.Test.YtikgdpfnpcfkkaaGreatDoorVa
import Derived.Test.YtikgdpfnpcfkkaaGreatDoorYb
namespace Go.Proofs.YtikgdpfnpcfkkaaGreatDoor
open Go.RowKit

theorem set_in (w : World) (g o : Nat) (vs : List Value) (hs : ∀ j, j < vs.length → (w.cell? ⟨g, o + j, none⟩).isSome = true) (k : Nat) (h1 : o ≤ k) (h2 : k < o + vs.length) : (w.setCells g o vs).cell? ⟨g, k, none⟩ = vs[k - o]? := by
  have h := World.cell?_setCells_in g vs o w hs (k - o) (by omega)
  rw [show o + (k - o) = k by omega] at h
  rw [h, List.getElem?_eq_getElem]
theorem set_out (w : World) (g o : Nat) (vs : List Value) (k : Nat) (h : k < o ∨ o + vs.length ≤ k) : (w.setCells g o vs).cell? ⟨g, k, none⟩ = w.cell? ⟨g, k, none⟩ :=
  World.cell?_setCells_out g vs o w ⟨g, k, none⟩ (fun _ _ => h)
theorem size_setCells (g : Nat) : ∀ (vs : List Value) (o : Nat) (w : World), (w.setCells g o vs).heap.size = w.heap.size
  | [], _, _ => rfl
  | v :: r, o, w => by rw [World.setCells, size_setCells g r]; simp
theorem Row.mk64 {w : World} {g n cap : Nat} {L : List Int} (hn : L.length = n) (h1 : n ≤ cap) (h2 : cap ≤ maxLen) (hwf : ∀ x ∈ L, (Lit.int .i64 x).wf = true) (hlt : g < w.heap.size)
    (hc : ∀ k, k < n → w.cell? ⟨g, k, none⟩ = some (.int .i64 (L[k]?.getD 0))) : Row .i64 w (.slice (some ⟨g, 0, none⟩) n cap) L := by
  subst hn
  exact ⟨_, cap, rfl, h1, h2, (by simp), hwf, fun _ => ⟨g, 0, rfl, hlt, fun i hi => by rw [Nat.zero_add]; exact hc i hi⟩⟩
theorem put_at (l : List Int) (i : Nat) (x : Int) (hi : i ≤ l.length) (k : Nat) : (l.take i ++ x :: l.drop i)[k]? = if k < i then l[k]? else if k = i then some x else l[k - 1]? := by
  have hl : (l.take i).length = i := by rw [List.length_take]; omega
  by_cases h1 : k < i
  · rw [if_pos h1, List.getElem?_append_left (by omega), List.getElem?_take_of_lt h1]
  · rw [if_neg h1, List.getElem?_append_right (by omega), hl]
    by_cases h2 : k = i
    · subst h2; simp
    · rw [if_neg h2, show k - i = (k - i - 1) + 1 by omega, List.getElem?_cons_succ, List.getElem?_drop, show i + (k - i - 1) = k - 1 by omega]
theorem put_wf {l : List Int} {x : Int} {i : Nat} (h : ∀ y ∈ l, (Lit.int .i64 y).wf = true) (hx : (Lit.int .i64 x).wf = true) : ∀ y ∈ l.take i ++ x :: l.drop i, (Lit.int .i64 y).wf = true := by
  intro y hy
  rcases List.mem_append.1 hy with hy | hy
  · exact h y (List.mem_of_mem_take hy)
  · rcases List.mem_cons.1 hy with rfl | hy
    · exact hx
    · exact h y (List.mem_of_mem_drop hy)
theorem put_len (l : List Int) (i : Nat) (x : Int) (hi : i ≤ l.length) : (l.take i ++ x :: l.drop i).length = l.length + 1 := by simp; omega
theorem ints_one (l : List Int) : ∀ v ∈ l.map (Value.int .i64), v.oneCell' = true := by
  intro v hv
  obtain ⟨y, _, rfl⟩ := List.mem_map.1 hv
  rfl
theorem map_get (l : List Int) (k : Nat) (hk : k < l.length) : (l.map (Value.int .i64))[k]? = some (.int .i64 (l[k]?.getD 0)) := by
  rw [List.getElem?_map, List.getElem?_eq_getElem hk]; rfl
theorem grown_cell (l : List Int) (x : Int) (Z : Array Value) (k : Nat) (hk : k < l.length + 1) : ((l.map (Value.int .i64) ++ [Value.int .i64 x]).toArray ++ Z)[k]? = some (.int .i64 ((l.take l.length ++ x :: l.drop l.length)[k]?.getD 0)) := by
  rw [Array.getElem?_append_left (by simp; omega), List.getElem?_toArray, put_at l _ x (Nat.le_refl _)]
  by_cases h1 : k < l.length
  · rw [if_pos h1, List.getElem?_append_left (by simpa using h1), map_get l k h1]
  · rw [if_neg h1, if_pos (by omega), List.getElem?_append_right (by simp; omega)]
    obtain rfl : k = l.length := by omega
    simp

set_option maxHeartbeats 1000000 in
theorem Insert_own (v : Value) (l : List Int) (i : Nat) (x : Int) (vb base : Nat) (w : World) (own : w.ownsRow base 3 1 v l.length (l.map (Value.int .i64))) (hl : l.length ≤ 1000000) (hi : i ≤ l.length)
    (hwf : ∀ y ∈ l, (Lit.int .i64 y).wf = true) (hx : (Lit.int .i64 x).wf = true) (hvb : w.heap[vb]? = some (.cells #[.int .i64 x] 3 (0, 0))) (hne : ∀ g, v.ownBlock = some g → g ≠ vb) (hb : base ≤ w.heap.size) :
    Calls Tryz.prog 47 #[v, .int .i64 i, .slice (some ⟨vb, 0, none⟩) 1 1] w fun e w' => ∃ a c, e = .returned (.slice a (l.length + 1) c) ∧ Row .i64 w' (.slice a (l.length + 1) c) (l.take i ++ x :: l.drop i) ∧ Past base (.slice a (l.length + 1) c) ∧ Below base w w' := by
  have hlen := put_len l i x hi
  have hW := put_wf (i := i) hwf hx
  have hvc : ∀ j v, [Value.int .i64 x][j]? = some v → w.cell? ⟨vb, 0 + j, none⟩ = some v := by
    intro j v hj
    cases j with
    | zero => injection hj with hj; subst hj; simp [World.cell?, hvb]
    | succ j => simp at hj
  have hv1 : ∀ v ∈ [Value.int .i64 x], v.oneCell' = true := by intro v hv; rw [List.mem_singleton.1 hv]; rfl
  have hvlt : vb < w.heap.size := (Array.getElem?_eq_some_iff.1 hvb).1
  rcases own.2 with ⟨rfl, h0⟩ | ⟨g, cap, cur, rfl, hg, hh, hnc, hcm, hcs, ht⟩
  · obtain rfl : l = [] := List.length_eq_zero_iff.1 h0
    obtain rfl : i = 0 := by simpa using hi
    refine (Any2.slices_Insert_int_end_grow Sh.laysNm221 none 0 0 vb 0 1 1 [] [.int .i64 x] w (by omega) (by omega) (by omega) (by omega) rfl rfl (fun _ => rfl) (fun a e => by cases e) hvc hv1).mono ?_
    rintro e w' ⟨rfl, rfl⟩
    refine ⟨_, _, rfl, ?_, (fun b o l c e => by cases e; exact hb), (Below.refl base w).drew.alloc hb _⟩
    refine Row.mk64 (by simp) (grownCap_ge _ _ _ _) (grownCap_le_maxLen _ _ _ _ (by unfold maxLen; omega)) hW (by simp) fun k hk => ?_
    rw [show w.heap.size = w.drew.heap.size from rfl, cell_alloc]
    exact grown_cell [] x _ k hk
  · have hgb : g ≠ vb := hne g rfl
    have hglt : g < w.heap.size := (Array.getElem?_eq_some_iff.1 hh).1
    have hcell : ∀ k, k < l.length → w.cell? ⟨g, k, none⟩ = some (.int .i64 (l[k]?.getD 0)) := fun k hk => owns_cell64 own k hk
    have hcs' : ∀ j v, (l.map (Value.int .i64))[j]? = some v → w.cell? ⟨g, 0 + j, none⟩ = some v := by
      intro j v hj
      have hjl : j < l.length := by
        apply Classical.byContradiction; intro hn
        rw [List.getElem?_eq_none (by simp; omega)] at hj; cases hj
      rw [Nat.zero_add, hcell j hjl, ← hj, map_get l j hjl]
    have hsome : ∀ k, k < cap → (w.cell? ⟨g, k, none⟩).isSome = true := by
      intro k hk
      simp [World.cell?, hh, show k < cur.size by omega]
    by_cases hroom : l.length + 1 ≤ cap
    · by_cases hin : i < l.length
      · refine (Any2.slices_Insert_int_shift Sh.laysNm221 g 0 l.length cap i vb 0 1 1 (l.map (Value.int .i64)) [.int .i64 x] w hin (by omega) hroom (by unfold maxLen at hcm; omega) (fun e => hgb e.symm) (by simp) rfl hcs'
          (fun j hj => by rw [Nat.zero_add]; exact hsome j (by omega)) (fun j hj => owns_free own _) hvc (ints_one l) hv1 3 3 1 cur.size (by simp [World.shape?, hvb]) (by simp [World.shape?, hh]) (by omega)
          (by simp [World.frozen?, hvb]) (by simp [World.frozen?, hvb])).mono ?_
        rintro e w' ⟨rfl, rfl⟩
        refine ⟨_, _, rfl, ?_, (fun b o l c e => by cases e; exact hg), below_setCells hg _ _ (below_setCells hg _ _ (Below.refl _ _).drew)⟩
        refine Row.mk64 hlen hroom hcm hW (by rw [size_setCells, size_setCells]; exact hglt) fun k hk => ?_
        have hs1 : ∀ j, j < ((l.map (Value.int .i64)).drop i).length → ((w.drew).cell? ⟨g, 0 + (i + 1) + j, none⟩).isSome = true := fun j hj => hsome _ (by simp at hj; omega)
        rw [put_at l i x hi]
        by_cases h1 : k < i
        · rw [set_out _ _ _ _ _ (by simp; omega), set_out _ _ _ _ _ (by simp; omega), if_pos h1]
          exact hcell k (by omega)
        · rw [if_neg h1]
          by_cases h2 : k = i
          · rw [if_pos h2, set_in _ _ _ _ (fun j hj => ?_) k (by omega) (by simp; omega)]
            · subst h2; simp
            · rw [set_out _ _ _ _ _ (by simp at hj ⊢; omega)]; exact hsome _ (by simp at hj; omega)
          · rw [if_neg h2, set_out _ _ _ _ _ (by simp; omega), set_in _ _ _ _ hs1 k (by omega) (by simp; omega), List.getElem?_drop, map_get l _ (by omega)]
            congr 3; congr 2; omega
      · obtain rfl : i = l.length := by omega
        refine (Any2.slices_Insert_int_end_room Sh.laysNm221 g 0 l.length cap vb 0 1 1 [.int .i64 x] w (by omega) hroom (by unfold maxLen at hcm; omega) rfl (fun j hj => hsome _ (by omega)) (fun j hj => owns_free own _) hvc hv1).mono ?_
        rintro e w' ⟨rfl, rfl⟩
        refine ⟨_, _, rfl, ?_, (fun b o l c e => by cases e; exact hg), below_setCells hg _ _ (Below.refl _ _)⟩
        refine Row.mk64 hlen hroom hcm hW (by rw [size_setCells]; exact hglt) fun k hk => ?_
        rw [put_at l _ x hi]
        by_cases h1 : k < l.length
        · rw [set_out _ _ _ _ _ (by simp; omega), if_pos h1]
          exact hcell k (by omega)
        · rw [if_neg h1, if_pos (by omega), set_in _ _ _ _ (fun j hj => hsome _ (by simp at hj; omega)) k (by omega) (by simp; omega)]
          obtain rfl : k = l.length := by omega
          simp
    · by_cases hin : i < l.length
      · refine (Any2.slices_Insert_int_grow Sh.laysNm221 g 0 l.length cap i vb 0 1 1 (l.map (Value.int .i64)) [.int .i64 x] w hin (by omega) hnc (by omega) (by omega) (by simp) rfl hcs' hvc (ints_one l) hv1).mono ?_
        rintro e w' ⟨rfl, rfl⟩
        refine ⟨_, _, rfl, ?_, (fun b o l c e => by cases e; exact hb), below_setCells hb _ _ (below_setCells hb _ _ ((Below.refl base w).alloc hb _).drew).drew⟩
        refine Row.mk64 hlen (grownCap_ge _ _ _ _) (grownCap_le_maxLen _ _ _ _ (by unfold maxLen; omega)) hW (by rw [size_setCells, World.drew, size_setCells]; simp) fun k hk => ?_
        obtain ⟨A, hA⟩ : ∃ A, ((l.map (Value.int .i64)).take i).toArray ++ Builtin.zeroCells (Value.int .i64 0).cells (l.length + 1 - i) ++ Builtin.zeroCells (Value.int .i64 0).cells (grownCap w (l.length + 1) cap (Sh.laysNm221_ren.t 3) - (l.length + 1)) = A := ⟨_, rfl⟩
        rw [hA]
        have hAs : l.length + 1 ≤ A.size := by rw [← hA]; simp only [Array.size_append, size_zeroCells, List.size_toArray, List.length_take, List.length_map]; simp [Value.cells]; omega
        have hAt : ∀ k, k < i → A[k]? = some (.int .i64 (l[k]?.getD 0)) := by
          intro k hk
          rw [← hA, Array.getElem?_append_left (by simp; omega), Array.getElem?_append_left (by simp; omega), List.getElem?_toArray, List.getElem?_take_of_lt hk, map_get l k (by omega)]
        obtain ⟨G, hG⟩ : ∃ G, w.heap.size = G := ⟨_, rfl⟩
        have c1 : ∀ k, ((w.alloc (.cells A (Sh.laysNm221_ren.t 3))).drew).cell? ⟨G, k, none⟩ = A[k]? := fun k => by rw [← hG]; exact cell_alloc w A _ k
        rw [hG]
        generalize (w.alloc (.cells A (Sh.laysNm221_ren.t 3))).drew = W1 at *
        have s0 : ∀ k, k < l.length + 1 → (W1.cell? ⟨G, k, none⟩).isSome = true := fun k hk => by
          rw [c1, Array.getElem?_eq_getElem (by omega)]; rfl
        have c2 : ∀ a, ((W1.setCells G i [.int .i64 x]).drew).cell? a = (W1.setCells G i [.int .i64 x]).cell? a := fun _ => rfl
        generalize (W1.setCells G i [.int .i64 x]).drew = W2 at *
        have s1 : ∀ k, k < l.length + 1 → (W2.cell? ⟨G, k, none⟩).isSome = true := fun k hk => by
          rw [c2]
          by_cases h2 : k = i
          · rw [set_in _ _ _ _ (fun j hj => s0 _ (by simp at hj; omega)) k (by omega) (by simp; omega)]; subst h2; simp
          · rw [set_out _ _ _ _ _ (by simp; omega)]; exact s0 k hk
        rw [put_at l i x hi]
        by_cases h1 : k < i
        · rw [set_out _ _ _ _ _ (by simp; omega), c2, set_out _ _ _ _ _ (by simp; omega), if_pos h1, c1, hAt k h1]
        · rw [if_neg h1]
          by_cases h2 : k = i
          · rw [if_pos h2, set_out _ _ _ _ _ (by simp; omega), c2, set_in _ _ _ _ (fun j hj => s0 _ (by simp at hj; omega)) k (by omega) (by simp; omega)]
            subst h2; simp
          · rw [if_neg h2, set_in _ _ _ _ (fun j hj => s1 _ (by simp at hj; omega)) k (by omega) (by simp; omega), List.getElem?_drop, map_get l _ (by omega)]
            congr 3; congr 2; omega
      · obtain rfl : i = l.length := by omega
        refine (Any2.slices_Insert_int_end_grow Sh.laysNm221 (some ⟨g, 0, none⟩) l.length cap vb 0 1 1 (l.map (Value.int .i64)) [.int .i64 x] w (by omega) hnc (by omega) (by omega) (by simp) rfl (fun e => by cases e)
          (fun a e j v hj => by injection e with e; subst e; rw [addr_add]; exact hcs' j v hj) hvc hv1).mono ?_
        rintro e w' ⟨rfl, rfl⟩
        refine ⟨_, _, rfl, ?_, (fun b o l c e => by cases e; exact hb), (Below.refl base w).drew.alloc hb _⟩
        refine Row.mk64 hlen (grownCap_ge _ _ _ _) (grownCap_le_maxLen _ _ _ _ (by unfold maxLen; omega)) hW (by simp) fun k hk => ?_
        rw [show w.heap.size = w.drew.heap.size from rfl, cell_alloc]
        exact grown_cell l x _ k hk
end Go.Proofs.YtikgdpfnpcfkkaaGreatDoor
