/-
  Items of the call's own: what they need to stay, a row of them that grows; many items, whatever the fuel.
-/
import Derived.Test.YtfdchdnkblmijaaGreatDoorDh
namespace Go.Proofs.YtfdchdnkblmijaaGreatDoor
open Go.RowKit

/-- No block from n on has changed but g. -/
def Keep (n : Nat) (g : Option Nat) (W V : World) : Prop := W.heap.size ≤ V.heap.size ∧ ∀ k, n ≤ k → k < W.heap.size → some k ≠ g → V.heap[k]? = W.heap[k]?
theorem Keep.refl (n : Nat) (g : Option Nat) (W : World) : Keep n g W W := ⟨Nat.le_refl _, fun _ _ _ _ => rfl⟩
theorem Keep.of_below {n m : Nat} {g : Option Nat} {W V : World} (h : Below m W V) (hm : W.heap.size ≤ m) : Keep n g W V := ⟨h.size, fun k _ hk _ => h.block k (by omega)⟩
theorem Keep.of_grown {n : Nat} {g : Option Nat} {W V : World} (h : W.grownBy V g) : Keep n g W V := ⟨h.size, fun k _ hk hg => h.block k hk hg⟩
theorem Keep.trans {n : Nat} {g : Option Nat} {W V U : World} (h : Keep n g W V) (h2 : Keep n g V U) : Keep n g W U :=
  ⟨Nat.le_trans h.1 h2.1, fun k hn hk hg => (h2.2 k hn (Nat.lt_of_lt_of_le hk h.1) hg).trans (h.2 k hn hk hg)⟩
theorem Keep.weak {n : Nat} {g : Option Nat} {W V : World} (h : Keep n none W V) : Keep n g W V := ⟨h.1, fun k hn hk _ => h.2 k hn hk (by simp)⟩
/-- The item stays so long as the blocks from n on do, but g. -/
def Own (n : Nat) (g : Option Nat) (W : World) (vb vl : Value) (x : Dm.It) : Prop := ∀ V, Keep n g W V → ItP V vb vl x
theorem Own.it {n : Nat} {g : Option Nat} {W : World} {vb vl : Value} {x : Dm.It} (h : Own n g W vb vl x) : ItP W vb vl x := h W (Keep.refl _ _ _)
theorem Own.kept {n : Nat} {g : Option Nat} {W V : World} {vb vl : Value} {x : Dm.It} (h : Own n g W vb vl x) (hk : Keep n g W V) : Own n g V vb vl x := fun U hU => h U (hk.trans hU)
theorem Own.moved {n : Nat} {g g' : Option Nat} {W V : World} {vb vl : Value} {x : Dm.It} (h : Own n g W vb vl x) (hk : Keep n g W V) (hg : g' = g ∨ g' = some W.heap.size) : Own n g' V vb vl x := by
  rcases hg with rfl | rfl
  · exact h.kept hk
  · refine fun U hU => h U ⟨Nat.le_trans hk.1 hU.1, fun k hn hlt hne => ?_⟩
    exact (hU.2 k hn (Nat.lt_of_lt_of_le hlt hk.1) (by simp; omega)).trans (hk.2 k hn hlt hne)
/-- What was made behind g. -/
theorem Own.of_new {n n' : Nat} {g : Option Nat} {W : World} {vb vl : Value} {x : Dm.It} (h : Own n' none W vb vl x) (hn : n ≤ n') (hg : ∀ k, g = some k → k < n') : Own n g W vb vl x := fun V hV =>
  h V ⟨hV.1, fun k h1 h2 _ => hV.2 k (Nat.le_trans hn h1) h2 (fun e => by have := hg k e.symm; omega)⟩
/-- The cells of items, one behind the other. -/
def Cells (n : Nat) (g : Option Nat) (W : World) : List Value → List Dm.It → Prop
  | xs, [] => xs = []
  | xs, x :: l => ∃ vb vl ys, xs = .int .i64 x.tag :: vb :: vl :: ys ∧ Own n g W vb vl x ∧ Cells n g W ys l
theorem Cells.moved {n : Nat} {g g' : Option Nat} {W V : World} (hk : Keep n g W V) (hg : g' = g ∨ g' = some W.heap.size) : ∀ {l : List Dm.It} {xs : List Value}, Cells n g W xs l → Cells n g' V xs l
  | [], _, h => h
  | _ :: _, _, ⟨vb, vl, ys, e, h1, h2⟩ => ⟨vb, vl, ys, e, h1.moved hk hg, h2.moved hk hg⟩
theorem Cells.kept {n : Nat} {g : Option Nat} {W V : World} (hk : Keep n g W V) {l : List Dm.It} {xs : List Value} (h : Cells n g W xs l) : Cells n g V xs l := h.moved hk (.inl rfl)
theorem Cells.snoc {n : Nat} {g : Option Nat} {W : World} {vb vl : Value} {y : Dm.It} (hy : Own n g W vb vl y) : ∀ {l : List Dm.It} {xs : List Value}, Cells n g W xs l → Cells n g W (xs ++ [.int .i64 y.tag, vb, vl]) (l ++ [y])
  | [], _, h => ⟨vb, vl, [], by rw [show _ = [] from h]; rfl, hy, rfl⟩
  | _ :: _, _, ⟨vb', vl', ys, e, h1, h2⟩ => ⟨vb', vl', ys ++ [.int .i64 y.tag, vb, vl], by rw [e]; rfl, h1, h2.snoc hy⟩
theorem Cells.items {n : Nat} {g : Option Nat} {W V : World} {b : Nat} (hk : Keep n g W V) : ∀ {l : List Dm.It} {xs : List Value} {o : Nat}, Cells n g W xs l → (∀ j u, xs[j]? = some u → V.cell? ⟨b, o + j, none⟩ = some u) → ItemsAt V b o l
  | [], _, _, _, _ => by unfold ItemsAt; trivial
  | x :: l, xs, o, ⟨vb, vl, ys, e, h1, h2⟩, hc => by
    subst e
    unfold ItemsAt
    refine ⟨ItemAt.of (hc 0 _ rfl) (hc 1 _ rfl) (hc 2 _ rfl) (h1 V hk), h2.items hk fun j u hj => ?_⟩
    have := hc (j + 3) u (by simpa using hj)
    rw [show o + 3 + j = o + (j + 3) by omega]; exact this
/-- A row of items that the call owns is a slice of items, and stays one. -/
theorem Cells.its {n : Nat} {W V : World} {v : Value} {l : List Dm.It} {xs : List Value} {e : TypeId} (ho : W.ownsRow n e 3 v l.length xs) (hc : Cells n v.ownBlock W xs l) (hk : Keep n none W V) : ItsV V v l := by
  have hx := ho.1
  rcases ho.2 with ⟨rfl, h0⟩ | ⟨g, cap, cur, rfl, hb, hg, h1, h2, h3, h4⟩
  · have : l = [] := List.eq_nil_of_length_eq_zero h0
    subst this
    exact ItsV.nil _
  · have hlt : g < W.heap.size := (Array.getElem?_eq_some_iff.1 hg).1
    have hgV : V.heap[g]? = some (.cells cur e (0, 0)) := (hk.2 g hb hlt (by simp)).trans hg
    have hoV : V.ownsRow n e 3 (.slice (some ⟨g, 0, none⟩) l.length cap) l.length xs := ⟨hx, .inr ⟨g, cap, cur, rfl, hb, hgV, h1, h2, h3, h4⟩⟩
    refine ⟨_, _, rfl, h1, h2, (fun h => by cases h), fun _ => ⟨g, 0, rfl, Nat.lt_of_lt_of_le hlt hk.1, hc.items hk.weak fun j u hj => ?_⟩⟩
    have := hoV.cells (g := g) rfl j u hj
    rwa [addr_add] at this
/-- The sequence put together. -/
theorem Own.seq {n : Nat} {W : World} {v : Value} {l : List Dm.It} {xs : List Value} {e : TypeId} {t : Int} (ht : (Lit.int .i64 t).wf = true) (ho : W.ownsRow n e 3 v l.length xs) (hc : Cells n v.ownBlock W xs l) : Own n none W (.slice none 0 0) v (.mk t [] l) := fun _ hk => ⟨ht, Row.nil _ _, hc.its ho hk⟩
/-- A row of bytes of the call's own. -/
theorem Own.bytes {n : Nat} {W : World} {v : Value} {bs : List Int} {t : Int} (ht : (Lit.int .i64 t).wf = true) (hr : Row .u8 W v bs) (hb : ∀ b o m c, v = .slice (some ⟨b, o, none⟩) m c → 0 < m → n ≤ b) : Own n none W v (.slice none 0 0) (.mk t bs []) := fun V hk => by
  refine ⟨ht, (?_ : Row .u8 V v bs), ItsV.nil _⟩
  obtain ⟨a, cap, e, h1, h2, h3, h4, h5⟩ := hr
  refine ⟨a, cap, e, h1, h2, h3, h4, fun hne => ?_⟩
  obtain ⟨b, o, e2, hlt, hc⟩ := h5 hne
  refine ⟨b, o, e2, Nat.lt_of_lt_of_le hlt hk.1, fun i hi => ?_⟩
  have hn : n ≤ b := hb b o bs.length cap (by rw [e, e2]) (List.length_pos_iff.2 hne)
  rw [World.cell?_of_block (w := W) (w' := V) (a := ⟨b, o + i, none⟩) (hk.2 b hn hlt (by simp))]
  exact hc i hi

theorem many_fuel {f : List Int → Except Int (Dm.It × List Int)} (hf : ∀ b y r, f b = .ok (y, r) → r.length < b.length) : ∀ (n m : Nat) (b : List Int), b.length ≤ n → b.length ≤ m → Dm.many f n b = Dm.many f m b
  | 0, m, b, hn, _ => by
    obtain rfl : b = [] := List.eq_nil_of_length_eq_zero (by omega)
    cases m <;> simp [Dm.many]
  | n + 1, 0, b, _, hm => by
    obtain rfl : b = [] := List.eq_nil_of_length_eq_zero (by omega)
    simp [Dm.many]
  | n + 1, m + 1, b, hn, hm => by
    unfold Dm.many
    split
    · rfl
    · match hfb : f b with
      | .error _ => rfl
      | .ok (y, r) =>
        have := hf b y r hfb
        simp only
        rw [many_fuel hf n m r (by omega) (by omega)]
theorem many_step {f : List Int → Except Int (Dm.It × List Int)} (hf : ∀ b y r, f b = .ok (y, r) → r.length < b.length) {b : List Int} {y : Dm.It} {r : List Int} (hne : b ≠ []) (h : f b = .ok (y, r)) :
    Dm.many f b.length b = (Dm.many f r.length r).map (y :: ·) := by
  obtain ⟨n, hn⟩ : ∃ n, b.length = n + 1 := ⟨b.length - 1, by have := List.length_pos_iff.2 hne; omega⟩
  rw [hn]
  have := hf b y r h
  have he : b.isEmpty = false := by simpa using hne
  conv => lhs; unfold Dm.many
  rw [he, if_neg (by decide), h]
  simp only
  rw [many_fuel hf n r.length r (by omega) (Nat.le_refl _)]
theorem many_stop {f : List Int → Except Int (Dm.It × List Int)} {b : List Int} {e : Int} (hne : b ≠ []) (h : f b = .error e) : Dm.many f b.length b = none := by
  obtain ⟨n, hn⟩ : ∃ n, b.length = n + 1 := ⟨b.length - 1, by have := List.length_pos_iff.2 hne; omega⟩
  rw [hn]
  have he : b.isEmpty = false := by simpa using hne
  unfold Dm.many
  rw [he, if_neg (by decide), h]
theorem many_end (f : List Int → Except Int (Dm.It × List Int)) : Dm.many f ([] : List Int).length [] = some [] := by simp [Dm.many]
/-- What is left is less. -/
theorem get_less (d : Nat) (b : List Int) (y : Dm.It) (r : List Int) (h : Dm.get d b = .ok (y, r)) : r.length < b.length := by
  cases b with
  | nil => cases d <;> cases h
  | cons t b1 =>
    have key : ∀ (f : List Int → Except Int (Dm.It × List Int)) (ok : Bool), Dm.getW f ok (t :: b1) = .ok (y, r) → r.length < (t :: b1).length := by
      intro f ok h
      rw [Dm.getW_cons] at h
      split at h
      · cases h
      · split at h
        · cases h
        · split at h
          · cases h
          · split at h
            · cases h
            · split at h
              · split at h
                · cases h
                · cases h; simp; omega
              · split at h
                · cases h; simp; omega
                · cases h
    cases d with
    | zero => exact key _ _ h
    | succ d => exact key _ _ h
end Go.Proofs.YtfdchdnkblmijaaGreatDoor
