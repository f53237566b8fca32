/-
  A cascade as plain functions: no program in sight.
-/
import Derived.Test.YtconpdliadhahaaTp
namespace Go.Proofs.Ytconpdliadhahaa.Cm
open Go.Proofs.Ytconpdliadhahaa

/-- A level's sieve. -/
def lv (day i : Int) (ins : List Int) : Sm.Sv := Sm.ofS (Sm.fresh (8 * max 1 (ins.length : Int)) 3 (16 * day + i)) ins
/-- The levels, one behind the other; none if they are more than f. -/
def build (day : Int) : Nat → Int → List Int → List Int → Option (List Sm.Sv)
  | 0, _, _, _ => none
  | f + 1, i, ins, outs =>
    if outs.filter (Sm.has (lv day i ins)) = [] then some [lv day i ins]
    else (build day f (i + 1) (outs.filter (Sm.has (lv day i ins))) ins).map (lv day i ins :: ·)
/-- How many levels tell a number, from the first one on. -/
def idx (ls : List Sm.Sv) (x : Int) : Nat := (ls.takeWhile fun s => Sm.has s x).length
theorem idx_cons_no (s : Sm.Sv) (ls : List Sm.Sv) (x : Int) (h : Sm.has s x = false) : idx (s :: ls) x = 0 := by simp [idx, h]
theorem idx_cons_yes (s : Sm.Sv) (ls : List Sm.Sv) (x : Int) (h : Sm.has s x = true) : idx (s :: ls) x = idx ls x + 1 := by simp [idx, h]

theorem lv_ok (day i : Int) (ins : List Int) (hs : Sm.right (16 * day + i)) (hl : ins.length ≤ 1024) (hr : Sm.allRight ins) : Sm.ok (Sm.fresh (8 * max 1 (ins.length : Int)) 3 (16 * day + i)) ∧ Sm.allRight ins := by
  refine ⟨⟨?_, ?_, ?_, (by show (1 : Int) ≤ 3; omega), (by show (3 : Int) ≤ 8; omega), hs, ?_⟩, hr⟩
  · show 8 ≤ 8 * max 1 (ins.length : Int); omega
  · show 8 * max 1 (ins.length : Int) ≤ 8192; omega
  · show 8 * max 1 (ins.length : Int) % 8 = 0; omega
  · show ((List.replicate ((max 0 (min (8 * max 1 (ins.length : Int)) 8192)).toNat / 8) (0 : Int)).length : Int) = 8 * max 1 (ins.length : Int) / 8
    rw [List.length_replicate]; omega
theorem filter_right {q : Int → Bool} {l : List Int} (h : Sm.allRight l) : Sm.allRight (l.filter q) := fun x hx => h x (List.mem_filter.1 hx).1
theorem filter_len (q : Int → Bool) (l : List Int) : (l.filter q).length ≤ l.length := List.length_filter_le q l

/-- All that are in are told, none of the others is. -/
theorem tells (day : Int) (hd : 0 ≤ day) (hd2 : day < 68719476736) : ∀ (f : Nat) (i : Int) (ins outs : List Int) (ls : List Sm.Sv), 0 ≤ i → i + f ≤ 16 → ins.length ≤ 1024 → outs.length ≤ 1024 → Sm.allRight ins → Sm.allRight outs → (∀ x ∈ ins, x ∉ outs) →
    build day f i ins outs = some ls → (∀ x ∈ ins, idx ls x % 2 = 1) ∧ (∀ x ∈ outs, idx ls x % 2 = 0)
  | 0, _, _, _, _, _, _, _, _, _, _, _, h => by simp [build] at h
  | f + 1, i, ins, outs, ls, hi, hf, hl1, hl2, hr1, hr2, hdis, h => by
    have hyk := lv_ok day i ins ⟨by omega, by omega⟩ hl1 hr1
    have hin : ∀ x ∈ ins, Sm.has (lv day i ins) x = true := fun x hx => Sm.has_of _ ins x hyk hx
    unfold build at h
    by_cases hn : outs.filter (Sm.has (lv day i ins)) = []
    · rw [if_pos hn] at h
      injection h with h
      subst h
      refine ⟨fun x hx => ?_, fun x hx => ?_⟩
      · rw [idx_cons_yes _ _ _ (hin x hx)]; rfl
      · have : Sm.has (lv day i ins) x = false := by
          rw [← Bool.not_eq_true]
          intro ht
          have : x ∈ outs.filter (Sm.has (lv day i ins)) := List.mem_filter.2 ⟨hx, ht⟩
          rw [hn] at this; cases this
        rw [idx_cons_no _ _ _ this]
    · rw [if_neg hn] at h
      obtain ⟨rest, hrest, rfl⟩ := Option.map_eq_some_iff.1 h
      have hrec := tells day hd hd2 f (i + 1) _ ins rest (by omega) (by omega) (Nat.le_trans (filter_len _ _) hl2) hl1 (filter_right hr2) hr1
        (fun x hx hx2 => hdis x hx2 (List.mem_filter.1 hx).1) hrest
      refine ⟨fun x hx => ?_, fun x hx => ?_⟩
      · rw [idx_cons_yes _ _ _ (hin x hx)]
        have := hrec.2 x hx
        omega
      · cases ht : Sm.has (lv day i ins) x with
        | false => rw [idx_cons_no _ _ _ ht]
        | true =>
          rw [idx_cons_yes _ _ _ ht]
          have := hrec.1 x (List.mem_filter.2 ⟨hx, ht⟩)
          omega

/-- A day. -/
def dated (day : Int) : Prop := 0 ≤ day ∧ day < 68719476736
/-- No level. -/
def nil : Sm.Sv := ⟨0, 0, 0, []⟩
def goodAt (day : Int) (i : Nat) (s : Sm.Sv) : Prop := Sm.ok s ∧ s.hashes = 3 ∧ s.salt = 16 * day + i
/-- A cascade that may be. -/
def good (day : Int) (ls : List Sm.Sv) : Prop := ls.length ≤ 16 ∧ dated day ∧ ∀ i, i < ls.length → goodAt day i (ls[i]?.getD nil)
instance (day : Int) : Decidable (dated day) := by unfold dated; infer_instance
instance (s : Sm.Sv) : Decidable (Sm.ok s) := by unfold Sm.ok Sm.right; infer_instance
instance (day : Int) (i : Nat) (s : Sm.Sv) : Decidable (goodAt day i s) := by unfold goodAt; infer_instance
instance (day : Int) (ls : List Sm.Sv) : Decidable (good day ls) := by unfold good; infer_instance
/-- What Check says. -/
def chk (day : Int) (ls : List Sm.Sv) : Int := if 16 < ls.length then 2 else if good day ls then 0 else 1
/-- Whether a number is in. -/
def has (day : Int) (ls : List Sm.Sv) (x : Int) : Bool := decide (good day ls) && decide (idx ls x % 2 = 1)

theorem lv_facts (day i : Int) (ins : List Int) (h : Sm.ok (Sm.fresh (8 * max 1 (ins.length : Int)) 3 (16 * day + i)) ∧ Sm.allRight ins) : Sm.ok (lv day i ins) ∧ (lv day i ins).hashes = 3 ∧ (lv day i ins).salt = 16 * day + i := by
  refine ⟨Sm.ok_of _ _ h, ?_, ?_⟩
  · unfold lv Sm.ofS; rw [if_pos h]; rfl
  · unfold lv Sm.ofS; rw [if_pos h]; rfl
theorem build_good (day : Int) (hd : dated day) : ∀ (f i : Nat) (ins outs : List Int) (ls : List Sm.Sv), i + f ≤ 16 → ins.length ≤ 1024 → outs.length ≤ 1024 → Sm.allRight ins → Sm.allRight outs →
    build day f i ins outs = some ls → 1 ≤ ls.length ∧ ls.length ≤ f ∧ ∀ k, k < ls.length → goodAt day (i + k) (ls[k]?.getD nil)
  | 0, _, _, _, _, _, _, _, _, _, h => by simp [build] at h
  | f + 1, i, ins, outs, ls, hf, hl1, hl2, hr1, hr2, h => by
    have hyk := lv_ok day i ins ⟨by have := hd.1; omega, by have := hd.2; omega⟩ hl1 hr1
    have h0 : goodAt day (i + 0) (lv day i ins) := lv_facts day i ins hyk
    unfold build at h
    by_cases hn : outs.filter (Sm.has (lv day i ins)) = []
    · rw [if_pos hn] at h
      injection h with h
      subst h
      refine ⟨by simp, by simp, fun k hk => ?_⟩
      obtain rfl : k = 0 := by simp at hk; exact hk
      exact h0
    · rw [if_neg hn] at h
      obtain ⟨rest, hrest, rfl⟩ := Option.map_eq_some_iff.1 h
      have hrest' : build day f (i + 1 : Nat) (outs.filter (Sm.has (lv day i ins))) ins = some rest := by
        rw [← hrest]; congr 1
      obtain ⟨r1, r2, r3⟩ := build_good day hd f (i + 1) _ ins rest (by omega) (Nat.le_trans (filter_len _ _) hl2) hl1 (filter_right hr2) hr1 hrest'
      refine ⟨by simp, by simp; omega, fun k hk => ?_⟩
      cases k with
      | zero => exact h0
      | succ k =>
        have := r3 k (by simp at hk; exact hk)
        rw [show i + 1 + k = i + (k + 1) by omega] at this
        exact this
theorem good_build (day : Int) (hd : dated day) (ins outs : List Int) (ls : List Sm.Sv) (hl1 : ins.length ≤ 1024) (hl2 : outs.length ≤ 1024) (hr1 : Sm.allRight ins) (hr2 : Sm.allRight outs) (h : build day 16 0 ins outs = some ls) : good day ls ∧ 1 ≤ ls.length := by
  obtain ⟨r1, r2, r3⟩ := build_good day hd 16 0 ins outs ls (by omega) hl1 hl2 hr1 hr2 h
  refine ⟨⟨r2, hd, fun i hi => ?_⟩, r1⟩
  have := r3 i hi
  rwa [Nat.zero_add] at this
theorem has_build (day : Int) (hd : dated day) (ins outs : List Int) (ls : List Sm.Sv) (hl1 : ins.length ≤ 1024) (hl2 : outs.length ≤ 1024) (hr1 : Sm.allRight ins) (hr2 : Sm.allRight outs) (hdis : ∀ x ∈ ins, x ∉ outs) (h : build day 16 0 ins outs = some ls) :
    (∀ x ∈ ins, has day ls x = true) ∧ (∀ x ∈ outs, has day ls x = false) := by
  have hg := (good_build day hd ins outs ls hl1 hl2 hr1 hr2 h).1
  have ht := tells day hd.1 hd.2 16 0 ins outs ls (by omega) (by omega) hl1 hl2 hr1 hr2 hdis h
  refine ⟨fun x hx => ?_, fun x hx => ?_⟩
  · unfold has; rw [decide_eq_true hg, decide_eq_true (ht.1 x hx)]; rfl
  · unfold has; rw [decide_eq_false (p := idx ls x % 2 = 1) (by rw [ht.2 x hx]; decide)]; simp
/-- One level more. -/
theorem build_step (day : Int) (f i : Nat) (ins outs : List Int) (hn : outs.filter (Sm.has (lv day i ins)) ≠ []) : build day (f + 1) i ins outs = (build day f (i + 1 : Nat) (outs.filter (Sm.has (lv day i ins))) ins).map (lv day i ins :: ·) := by
  rw [build, if_neg hn]; congr 1
theorem build_last (day : Int) (f i : Nat) (ins outs : List Int) (hn : outs.filter (Sm.has (lv day i ins)) = []) : build day (f + 1) i ins outs = some [lv day i ins] := by
  rw [build, if_pos hn]
/-- What Make answers: the code, the day and the levels. -/
def disjoint (ins outs : List Int) : Prop := ∀ x ∈ ins, x ∉ outs
instance (ins outs : List Int) : Decidable (disjoint ins outs) := by unfold disjoint; infer_instance
end Go.Proofs.Ytconpdliadhahaa.Cm
