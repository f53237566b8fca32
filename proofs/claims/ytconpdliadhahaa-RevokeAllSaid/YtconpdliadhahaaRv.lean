/-
  What was issued, and what of that is revoked, as plain functions: no program in sight.
-/
import Derived.Test.YtconpdliadhahaaSm
namespace Go.Proofs.Ytconpdliadhahaa.Rv
open Go.Proofs.Ytconpdliadhahaa

/-- Numbers that rise, each of them one that may be. -/
def rises (l : List Int) : Prop := (∀ x ∈ l, Sm.right x) ∧ l.Pairwise (· < ·)
/-- They may be, but for how many there are. -/
def fits (live gone : List Int) : Prop := rises live ∧ rises gone ∧ ∀ x ∈ gone, x ∈ live
def okay (live gone : List Int) : Prop := fits live gone ∧ live.length ≤ 256
instance (n : Int) : Decidable (Sm.right n) := by unfold Sm.right; infer_instance
instance (l : List Int) : Decidable (rises l) := by unfold rises; infer_instance
instance (l m : List Int) : Decidable (fits l m) := by unfold fits; infer_instance
instance (l m : List Int) : Decidable (okay l m) := by unfold okay; infer_instance
def chk (live gone : List Int) : Int := if fits live gone then (if live.length ≤ 256 then 0 else 2) else 1
theorem chk_zero (live gone : List Int) : chk live gone = 0 ↔ okay live gone := by
  unfold chk okay
  by_cases h : fits live gone
  · by_cases h2 : live.length ≤ 256 <;> simp [h, h2]
  · simp [h]
theorem chk_okay {live gone : List Int} (h : okay live gone) : chk live gone = 0 := (chk_zero _ _).2 h
theorem chk_not {live gone : List Int} (h : ¬ okay live gone) : chk live gone ≠ 0 := fun e => h ((chk_zero _ _).1 e)

/-- How many are less, from the first one on. -/
def pos (l : List Int) (n : Int) : Nat := (l.takeWhile (fun x => decide (x < n))).length
/-- A list with a number in its place. -/
def ins (l : List Int) (n : Int) : List Int := l.take (pos l n) ++ n :: l.drop (pos l n)
theorem pos_le (l : List Int) (n : Int) : pos l n ≤ l.length := List.Sublist.length_le (List.takeWhile_sublist _)
theorem ins_length (l : List Int) (n : Int) : (ins l n).length = l.length + 1 := by
  have := pos_le l n
  unfold ins; simp; omega
theorem mem_ins (l : List Int) (n x : Int) : x ∈ ins l n ↔ x = n ∨ x ∈ l := by
  unfold ins
  rw [List.mem_append, List.mem_cons]
  constructor
  · rintro (h | h | h)
    · exact .inr (List.mem_of_mem_take h)
    · exact .inl h
    · exact .inr (List.mem_of_mem_drop h)
  · rintro (h | h)
    · exact .inr (.inl h)
    · rw [← List.take_append_drop (pos l n) l, List.mem_append] at h
      rcases h with h | h
      · exact .inl h
      · exact .inr (.inr h)
theorem pos_cons (a : Int) (l : List Int) (n : Int) : pos (a :: l) n = if a < n then pos l n + 1 else 0 := by
  unfold pos
  by_cases h : a < n <;> simp [h]
theorem take_pos_lt : ∀ (l : List Int) (n : Int), ∀ x ∈ l.take (pos l n), x < n
  | [], n, x, h => by simp at h
  | a :: l, n, x, h => by
    rw [pos_cons] at h
    by_cases ha : a < n
    · rw [if_pos ha, List.take_succ_cons, List.mem_cons] at h
      rcases h with rfl | h
      · exact ha
      · exact take_pos_lt l n x h
    · rw [if_neg ha] at h; simp at h
theorem drop_pos_ge : ∀ (l : List Int) (n : Int), l.Pairwise (· < ·) → ∀ x ∈ l.drop (pos l n), n ≤ x
  | [], n, _, x, h => by simp at h
  | a :: l, n, hp, x, h => by
    rw [pos_cons] at h
    by_cases ha : a < n
    · rw [if_pos ha, List.drop_succ_cons] at h
      exact drop_pos_ge l n hp.of_cons x h
    · rw [if_neg ha, List.drop_zero, List.mem_cons] at h
      rcases h with rfl | h
      · omega
      · have := List.rel_of_pairwise_cons hp h
        omega
theorem ins_sorted {l : List Int} {n : Int} (h : l.Pairwise (· < ·)) (hn : n ∉ l) : (ins l n).Pairwise (· < ·) := by
  unfold ins
  rw [List.pairwise_append]
  refine ⟨h.sublist (List.take_sublist _ _), ?_, ?_⟩
  · rw [List.pairwise_cons]
    refine ⟨fun x hx => ?_, h.sublist (List.drop_sublist _ _)⟩
    have h1 := drop_pos_ge l n h x hx
    have h2 : x ≠ n := fun e => hn (e ▸ List.mem_of_mem_drop hx)
    omega
  · intro a ha b hb
    have h1 := take_pos_lt l n a ha
    rcases List.mem_cons.1 hb with rfl | hb
    · exact h1
    · have := drop_pos_ge l n h b hb
      omega
theorem ins_rises {l : List Int} {n : Int} (h : rises l) (hr : Sm.right n) (hn : n ∉ l) : rises (ins l n) :=
  ⟨fun x hx => by rcases (mem_ins l n x).1 hx with rfl | hx; exact hr; exact h.1 x hx, ins_sorted h.2 hn⟩
/-- Lists that rise are told by what is in them. -/
theorem sorted_ext : ∀ {l m : List Int}, l.Pairwise (· < ·) → m.Pairwise (· < ·) → (∀ x, x ∈ l ↔ x ∈ m) → l = m
  | [], [], _, _, _ => rfl
  | [], b :: m, _, _, h => by have := (h b).2 (by simp); simp at this
  | a :: l, [], _, _, h => by have := (h a).1 (by simp); simp at this
  | a :: l, b :: m, hl, hm, h => by
    have ha : a ∈ b :: m := (h a).1 (by simp)
    have hb : b ∈ a :: l := (h b).2 (by simp)
    have e : a = b := by
      rcases List.mem_cons.1 ha with e | ha
      · exact e
      · rcases List.mem_cons.1 hb with e | hb
        · exact e.symm
        · have h1 := List.rel_of_pairwise_cons hl hb
          have h2 := List.rel_of_pairwise_cons hm ha
          omega
    subst e
    congr 1
    refine sorted_ext hl.of_cons hm.of_cons fun x => ?_
    have hx := h x
    constructor
    · intro hxl
      rcases List.mem_cons.1 (hx.1 (List.mem_cons_of_mem _ hxl)) with e | h'
      · subst e; have := List.rel_of_pairwise_cons hl hxl; omega
      · exact h'
    · intro hxm
      rcases List.mem_cons.1 (hx.2 (List.mem_cons_of_mem _ hxm)) with e | h'
      · subst e; have := List.rel_of_pairwise_cons hm hxm; omega
      · exact h'
theorem ins_ins {l : List Int} {n m : Int} (h : l.Pairwise (· < ·)) (hn : n ∉ l) (hm : m ∉ l) (hne : n ≠ m) : ins (ins l n) m = ins (ins l m) n := by
  have k1 : m ∉ ins l n := fun hx => by rcases (mem_ins _ _ _).1 hx with e | h'; exact hne e.symm; exact hm h'
  have k2 : n ∉ ins l m := fun hx => by rcases (mem_ins _ _ _).1 hx with e | h'; exact hne e; exact hn h'
  refine sorted_ext (ins_sorted (ins_sorted h hn) k1) (ins_sorted (ins_sorted h hm) k2) fun x => ?_
  simp only [mem_ins]
  constructor <;> (rintro (h | h | h) <;> simp [h])

/-- What comes of one more that is issued: its code, and both lists. -/
def addE (live gone : List Int) (n : Int) : Int :=
  if okay live gone then (if Sm.right n then (if n ∈ live then 221 else if live.length = 256 then 2 else 0) else 1) else chk live gone
def addR (live gone : List Int) (n : Int) : List Int × List Int := if addE live gone n = 0 then (ins live n, gone) else ([], [])
/-- What comes of one that is revoked. -/
def revE (live gone : List Int) (n : Int) : Int :=
  if okay live gone then (if n ∈ live then (if n ∈ gone then 270 else 0) else 131) else chk live gone
def revR (live gone : List Int) (n : Int) : List Int × List Int := if revE live gone n = 0 then (live, ins gone n) else ([], [])
theorem addE_zero (live gone : List Int) (n : Int) : addE live gone n = 0 ↔ okay live gone ∧ Sm.right n ∧ n ∉ live ∧ live.length ≠ 256 := by
  unfold addE
  by_cases h1 : okay live gone
  · by_cases h2 : Sm.right n
    · by_cases h3 : n ∈ live
      · simp [h1, h2, h3]
      · by_cases h4 : live.length = 256 <;> simp [h1, h2, h3, h4]
    · simp [h1, h2]
  · have := chk_not h1
    simp [h1, this]
theorem revE_zero (live gone : List Int) (n : Int) : revE live gone n = 0 ↔ okay live gone ∧ n ∈ live ∧ n ∉ gone := by
  unfold revE
  by_cases h1 : okay live gone
  · by_cases h2 : n ∈ live
    · by_cases h3 : n ∈ gone <;> simp [h1, h2, h3]
    · simp [h1, h2]
  · have := chk_not h1
    simp [h1, this]
theorem okay_add {live gone : List Int} {n : Int} (h : okay live gone) (hr : Sm.right n) (hn : n ∉ live) (hl : live.length ≠ 256) : okay (ins live n) gone :=
  ⟨⟨ins_rises h.1.1 hr hn, h.1.2.1, fun x hx => (mem_ins _ _ _).2 (.inr (h.1.2.2 x hx))⟩, by rw [ins_length]; have := h.2; omega⟩
theorem okay_rev {live gone : List Int} {n : Int} (h : okay live gone) (hn : n ∈ live) (hg : n ∉ gone) : okay live (ins gone n) :=
  ⟨⟨h.1.1, ins_rises h.1.2.1 (h.1.1.1 n hn) hg, fun x hx => by rcases (mem_ins _ _ _).1 hx with rfl | hx; exact hn; exact h.1.2.2 x hx⟩, h.2⟩
theorem rises_nil : rises [] := ⟨by simp, List.Pairwise.nil⟩
theorem okay_nil : okay [] [] := ⟨⟨rises_nil, rises_nil, by simp⟩, by decide⟩
/-- There are no more that are revoked than were issued. -/
theorem sub_len : ∀ {l m : List Int}, l.Pairwise (· < ·) → m.Pairwise (· < ·) → (∀ x ∈ l, x ∈ m) → l.length ≤ m.length
  | [], _, _, _, _ => Nat.zero_le _
  | a :: l, m, hl, hm, h => by
    have ha : a ∈ m := h a (by simp)
    have h2 : ∀ x ∈ l, x ∈ m.filter (fun y => decide (a < y)) := fun x hx => by
      rw [List.mem_filter]
      exact ⟨h x (List.mem_cons_of_mem _ hx), decide_eq_true (List.rel_of_pairwise_cons hl hx)⟩
    have h3 := sub_len hl.of_cons (hm.filter _) h2
    have h4 : (m.filter (fun y => decide (a < y))).length < m.length := by
      rw [← List.countP_eq_length_filter]
      have := List.countP_le_length (p := fun y => decide (a < y)) (l := m)
      rcases Nat.lt_or_ge (List.countP (fun y => decide (a < y)) m) m.length with h5 | h5
      · exact h5
      · have h6 := List.countP_eq_length.1 (Nat.le_antisymm this h5) a ha
        simp at h6
    simp only [List.length_cons]; omega
theorem gone_le {live gone : List Int} (h : okay live gone) : gone.length ≤ 256 := Nat.le_trans (sub_len h.1.2.1.2 h.1.1.2 h.1.2.2) h.2
end Go.Proofs.Ytconpdliadhahaa.Rv
