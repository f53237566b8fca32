/-
  What the guard FewAll gives: plain.
-/
import Derived.Test.YtpemahllpbadcaaWt
namespace Go.Proofs.Ytpemahllpbadcaa

/-- Cut ahead, as the walk writes it. -/
theorem Rws.cutif {k : IntKind} {w : World} {a : Option Addr} {n cap : Nat} {ls : List (List Int)} (h : Rws k w (.slice a n cap) ls) (m : Nat) (hm : m ≤ ls.length) : Rws k w (.slice (if cap = m then a else Option.map (fun x => x.add m) a) (n - m) (cap - m)) (ls.drop m) := by
  have h' := h
  obtain ⟨a', c', V, e, hl, -⟩ := h'
  cases e
  by_cases q : cap = m
  · rw [if_pos q, show cap - m = 0 by omega]
    exact h.cut_all m hm (by omega)
  · rw [if_neg q]; exact h.cut m hm (by omega)
theorem Row.cutif {k : IntKind} {w : World} {a : Option Addr} {n cap : Nat} {l : List Int} (h : Row k w (.slice a n cap) l) (m : Nat) (hm : m ≤ l.length) : Row k w (.slice (if cap = m then a else Option.map (fun x => x.add m) a) (n - m) (cap - m)) (l.drop m) := by
  have h' := h
  obtain ⟨a', c', e, hl, -⟩ := h'
  cases e
  by_cases q : cap = m
  · rw [if_pos q, show cap - m = 0 by omega]
    exact h.cut_all m hm (by omega)
  · rw [if_neg q]; exact h.cut m hm (by omega)
theorem rooms_cons (x : List Int) (t : List (List Int)) : rooms (x :: t) = x.length + 1 + rooms t := by
  have key : ∀ (l : List Nat) (n : Nat), l.foldl (· + ·) n = n + l.foldl (· + ·) 0 := by
    intro l
    induction l with
    | nil => intro n; simp
    | cons a l ih => intro n; simp only [List.foldl_cons]; rw [ih (n + a), ih (0 + a)]; omega
  unfold rooms
  simp only [List.map_cons, List.foldl_cons]
  rw [key]; omega
theorem frames_room (ls : List (List Int)) : (Wm.frames ls).length = rooms ls + 19 * ls.length := by
  induction ls with
  | nil => simp [Wm.frames, rooms]
  | cons x t ih => rw [rooms_cons, Wm.frames, List.length_append, Wm.frame_length, ih, List.length_cons]; omega
theorem row_room (ls : List (List Int)) (i : Nat) (h : i < ls.length) : (ls[i]?.getD []).length ≤ rooms ls := by
  induction ls generalizing i with
  | nil => simp at h
  | cons x t ih =>
    rw [rooms_cons]
    cases i with
    | zero => simp; omega
    | succ i => simp only [List.getElem?_cons_succ]; have := ih i (by simpa using h); omega
theorem rooms_take_le (ls : List (List Int)) (k : Nat) : rooms (ls.take k) ≤ rooms ls := by
  induction ls generalizing k with
  | nil => simp
  | cons x t ih => cases k with
    | zero => simp [rooms]
    | succ k => rw [List.take_succ_cons, rooms_cons, rooms_cons]; have := ih k; omega
theorem rooms_drop_le (ls : List (List Int)) (k : Nat) : rooms (ls.drop k) ≤ rooms ls := by
  induction ls generalizing k with
  | nil => simp
  | cons x t ih => cases k with
    | zero => simp
    | succ k => rw [List.drop_succ_cons, rooms_cons]; have := ih k; omega
/-- What the guard gives. -/
theorem few_facts (ls : List (List Int)) (h : ls.length ≤ 20 ∧ rooms ls ≤ 2000) : (∀ i, i < ls.length → (ls[i]?.getD []).length ≤ 4096) ∧ (Wm.frames ls).length ≤ 2400 ∧ Wm.read (Wm.frames ls) = ls ∧ Wm.good (Wm.frames ls) = (Wm.frames ls).length := by
  have h1 : ∀ i, i < ls.length → (ls[i]?.getD []).length ≤ 4096 := fun i hi => by have := row_room ls i hi; omega
  have h2 := Wm.good_frames [] ls good_none h1
  rw [List.nil_append, (Wm.read_not [] (fun h => by have := h.1; simp at this)).1, List.nil_append] at h2
  exact ⟨h1, by rw [frames_room]; omega, h2.1, h2.2⟩
theorem few_take (ls : List (List Int)) (k : Nat) (h : ls.length ≤ 20 ∧ rooms ls ≤ 2000) : (ls.take k).length ≤ 20 ∧ rooms (ls.take k) ≤ 2000 := by
  have := rooms_take_le ls k
  exact ⟨by simp; omega, by omega⟩
theorem few_drop (ls : List (List Int)) (k : Nat) (h : ls.length ≤ 20 ∧ rooms ls ≤ 2000) : (ls.drop k).length ≤ 20 ∧ rooms (ls.drop k) ≤ 2000 := by
  have := rooms_drop_le ls k
  exact ⟨by simp; omega, by omega⟩

end Go.Proofs.Ytpemahllpbadcaa
