/-
  The walk over law20's put: a store with more behind, one by one, under the guards.
-/
import Derived.Test.YtiijlakilogekaaWv
import Derived.Test.YtiijlakilogekaaRs
namespace Go.Proofs.Ytiijlakilogekaa
open Go.RowKit

/-- A slice that has bytes does not lie in the block g. -/
def Off (g : Nat) (v : Value) : Prop := ∀ b o l c, v = .slice (some ⟨b, o, none⟩) l c → 0 < l → b ≠ g
theorem Row.off {k : IntKind} {w : World} {v : Value} {l : List Int} {g : Nat} (h : Row k w v l) (hg : w.heap.size ≤ g) : Off g v := by
  intro b o n c e hn
  obtain ⟨a, cap, h1, h2, h3, h0, h4, h5⟩ := h
  rw [h1] at e
  cases e
  obtain ⟨b', off, e, hlt, hc⟩ := h5 (by rintro rfl; simp at hn)
  cases e
  omega
theorem Past.off {n g : Nat} {v : Value} (h : Past n v) (hg : g < n) : Off g v := fun b o l c e _ => by have := h b o l c e; omega
/-- A store elsewhere leaves a row as it was. -/
theorem Row.aside {k : IntKind} {w : World} {v : Value} {l : List Int} (h : Row k w v l) {p : Addr} (hp : Off p.block v) (u : Value) : Row k (w.setCell p u) v l := by
  obtain ⟨a, cap, h1, h2, h3, h0, h4, h5⟩ := h
  refine ⟨a, cap, h1, h2, h3, h0, h4, fun hne => ?_⟩
  obtain ⟨b, off, e, hlt, hc⟩ := h5 hne
  subst e
  exact ⟨b, off, rfl, by simpa using hlt, fun i hi => (World.cell?_setCell_other w p ⟨b, off + i, none⟩ u (fun e => hp _ _ _ _ h1 (by omega) (by subst e; rfl))).trans (hc i hi)⟩

/-- What lies in a cell that is there. -/
def Has (W : World) (p : Addr) (v : Value) : Prop := p.block < W.heap.size ∧ W.cell? p = some v
theorem Has.stp {W W' : World} {p : Addr} {v : Value} (h : Has W p v) (s : Stp W W') : Has W' p v := ⟨Nat.lt_of_lt_of_le h.1 s.size, (s.cell h.1).trans h.2⟩
theorem Has.alloc {W : World} {p : Addr} {v : Value} (h : Has W p v) (o : Obj) : Has (W.alloc o) p v := ⟨by simp; have := h.1; omega, (((Below.refl _ W).alloc (Nat.le_refl _) o).cell h.1).trans h.2⟩

theorem Wm.frames_snoc (ls : List (List Int)) (k : Nat) (h : k < ls.length) : Wm.frames (ls.take (k + 1)) = Wm.frames (ls.take k) ++ Wm.frame (ls[k]?.getD []) := by
  rw [List.take_succ_eq_append_getElem h, Wm.frames_append, List.getElem?_eq_getElem h]
  simp [Wm.frames]
theorem Wm.frames_take_le (ls : List (List Int)) (k : Nat) : (Wm.frames (ls.take k)).length ≤ (Wm.frames ls).length := by
  conv => rhs; rw [← List.take_append_drop k ls, Wm.frames_append]
  simp
theorem Wm.good_frames (b : List Int) (ls : List (List Int)) (h : Wm.good b = b.length) (hl : ∀ i, i < ls.length → (ls[i]?.getD []).length ≤ 4096) : Wm.read (b ++ Wm.frames ls) = Wm.read b ++ ls ∧ Wm.good (b ++ Wm.frames ls) = (b ++ Wm.frames ls).length := by
  have h' : ∀ x ∈ ls, x.length ≤ 4096 := by
    intro x hx
    obtain ⟨i, hi, rfl⟩ := List.getElem_of_mem hx
    have := hl i hi
    rwa [List.getElem?_eq_getElem hi] at this
  obtain ⟨g1, g2⟩ := Wm.read_append b (Wm.frames ls) h
  obtain ⟨f1, f2⟩ := Wm.read_frames ls h'
  rw [g1, g2, f1, f2]
  exact ⟨rfl, by simp⟩

theorem Off.nil (g n c : Nat) : Off g (.slice none n c) := fun b o l c h => by cases h
theorem Row.drew {k : IntKind} {w : World} {v : Value} {l : List Int} (h : Row k w v l) : Row k w.drew v l := h
theorem Rws.drew {k : IntKind} {w : World} {v : Value} {l : List (List Int)} (h : Rws k w v l) : Rws k w.drew v l := h
theorem Duo.drew {W : World} {B : Nat} {t : TypeId} {x y : Value} (h : Duo W B t x y) : Duo W.drew B t x y := h
end Go.Proofs.Ytiijlakilogekaa
