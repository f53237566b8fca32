/-
  slices' functions at numbers, on rows: IsSorted, Contains, BinarySearch, Compact, Insert.
-/
import Derived.Test.YtikgdpfnpcfkkaaGreatDoorSh3
import Derived.Test.YtikgdpfnpcfkkaaGreatDoorYb
import Derived.Test.YtikgdpfnpcfkkaaGreatDoorYc
import Derived.Deep.QuietTactic
import Derived.BigQuiet
namespace Go.Proofs.YtikgdpfnpcfkkaaGreatDoor
open Go.RowKit

theorem Contains_row (v : Value) (l : List Int) (x : Int) (w : World) (h : Row .i64 w v l) (hl : l.length ≤ 1000000) :
    Calls Tryz.prog 43 #[v, .int .i64 x] w fun e w' => e = .returned (.bool (decide (x ∈ l))) ∧ w = w' := by
  obtain ⟨a, c, rfl, hlc, hm, hn, hw, hc⟩ := h
  cases l with
  | nil =>
    refine (Sh.slices_Contains_int_empty a c x w).mono ?_
    rintro e w' ⟨rfl, rfl⟩
    exact ⟨by simp, rfl⟩
  | cons y t =>
    obtain ⟨b, off, rfl, hb, hcell⟩ := hc (by simp)
    refine (Sh.slices_Contains_int b off _ c (y :: t) x w (Nat.le_refl _) (by omega) (fun j hj => ?_)).mono ?_
    · rw [List.getD_eq_getElem?_getD]; exact hcell j hj
    · rintro e w' ⟨rfl, rfl⟩
      refine ⟨ret_bool ?_, rfl⟩
      rw [List.take_length, Bool.eq_iff_iff, List.contains_iff_mem, decide_eq_true_iff]

theorem Rv.countP_pos : ∀ (l : List Int) (x : Int), l.Pairwise (· < ·) → l.countP (· < x) = Rv.pos l x
  | [], _, _ => rfl
  | a :: l, x, h => by
    rw [Rv.pos_cons]
    by_cases hax : a < x
    · rw [if_pos hax, List.countP_cons_of_pos (by simpa using hax), Rv.countP_pos l x h.of_cons]
    · rw [if_neg hax, List.countP_cons_of_neg (by simpa using hax), List.countP_eq_zero]
      intro y hy
      have := List.rel_of_pairwise_cons h hy
      simp; omega
theorem Search_row (v : Value) (l : List Int) (x : Int) (w : World) (h : Row .i64 w v l) (hl : l.length ≤ 1000000) (hs : l.Pairwise (· < ·)) :
    Calls Tryz.prog 46 #[v, .int .i64 x] w fun e w' => e = .returned (.tuple #[.int .i64 (Rv.pos l x : Nat), .bool (decide (x ∈ l))]) ∧ Below w.heap.size w w' := by
  obtain ⟨a, c, rfl, hlc, hm, hn, hw, hc⟩ := h
  cases l with
  | nil =>
    refine (Sh.slices_BinarySearch_int_empty a c x w).mono ?_
    rintro e w' ⟨rfl, rfl⟩
    exact ⟨by simp [Rv.pos], Below.refl _ _⟩
  | cons y t =>
    obtain ⟨b, off, rfl, hb, hcell⟩ := hc (by simp)
    refine (Sh.slices_BinarySearch_int b off _ c (y :: t) x w (Nat.le_refl _) (by omega) (fun j hj => ?_) ?_).mono ?_
    · rw [List.getD_eq_getElem?_getD]; exact hcell j hj
    · rw [List.take_length]; exact hs.imp fun h => Int.le_of_lt h
    · rintro e w' ⟨rfl, q, rfl⟩
      refine ⟨?_, bel_drewN (Below.refl _ _) q⟩
      rw [List.take_length, Rv.countP_pos _ _ hs]
      have : (y :: t).contains x = decide (x ∈ y :: t) := by rw [Bool.eq_iff_iff, List.contains_iff_mem, decide_eq_true_iff]
      rw [this]

/-- From place k on they rise. -/
def Up (l : List Int) (k : Nat) : Prop := ∀ j, k ≤ j → j + 1 < l.length → l[j]?.getD 0 ≤ l[j + 1]?.getD 0
theorem up_zero : ∀ {l : List Int}, Up l 0 → l.Pairwise (· ≤ ·)
  | [], _ => List.Pairwise.nil
  | [_], _ => by simp
  | a :: b :: t, h => by
    have h1 : Up (b :: t) 0 := fun j _ hj => by have := h (j + 1) (by omega) (by simp at hj ⊢; omega); simpa using this
    have h2 := up_zero h1
    have h0 : a ≤ b := by have := h 0 (Nat.le_refl _) (by simp); simpa using this
    rw [List.pairwise_cons]
    refine ⟨fun x hx => ?_, h2⟩
    rcases List.mem_cons.1 hx with rfl | hx
    · exact h0
    · exact Int.le_trans h0 (List.rel_of_pairwise_cons h2 hx)
theorem not_up {l : List Int} {k : Nat} (hk : k + 1 < l.length) (h : l[k + 1]?.getD 0 < l[k]?.getD 0) : ¬ l.Pairwise (· ≤ ·) := fun hp => by
  have := List.pairwise_iff_getElem.1 hp k (k + 1) (by omega) hk (by omega)
  rw [List.getElem?_eq_getElem hk, List.getElem?_eq_getElem (show k < l.length by omega)] at h
  simp only [Option.getD_some] at h
  omega

set_option maxRecDepth 100000 in
set_option maxHeartbeats 1000000 in
theorem IsSorted_row (v : Value) (l : List Int) (w : World) (h : Row .i64 w v l) (hl : l.length ≤ 1000000) :
    Calls Tryz.prog 72 #[v] w fun e w' => e = .returned (.bool (decide (l.Pairwise (· ≤ ·)))) ∧ Below w.heap.size w w' := by
  obtain ⟨a, cap, rfl, hlc, hm, -, -, hc⟩ := h
  have HC := Lib.hid hc
  clear hc
  unfold maxLen at hm
  have e0 : IntKind.i64.wrap ((l.length : Int) - 1) = (l.length : Int) - 1 := IntWalk.i64_in _ (by omega)
  go_enter Tryz.func72, Tryz.ntmps72
  go_wp2_with fail
  go_loopw [3] (fun i wr => ∃ k : Int, i = .int .i64 k ∧ -1 ≤ k ∧ k + 1 ≤ l.length ∧ Up l k.toNat ∧ Below w.heap.size w wr) (fun i _ => (intOf i).toNat)
  case atStart => exact ⟨_, rfl, by omega, by omega, fun j h1 h2 => by omega, Below.refl _ _⟩
  case round =>
    obtain ⟨k, rfl, hk, hkl, hU, hB⟩ := hrel
    have HU := Lib.hid hU
    clear hU e0
    by_cases hlt : 0 < k
    · obtain ⟨b, off, rfl, hb, hcell⟩ := HC.out (by rintro rfl; simp at hkl; omega)
      obtain ⟨m, rfl⟩ : ∃ m : Nat, k = (m + 1 : Nat) := ⟨(k - 1).toNat, by omega⟩
      have g1 := (hB.cell (p := ⟨b, off + (m + 1), none⟩) hb).trans (hcell (m + 1) (by omega))
      have g2 := (hB.cell (p := ⟨b, off + m, none⟩) hb).trans (hcell m (by omega))
      obtain ⟨x, hx⟩ : ∃ x, l[m + 1]?.getD 0 = x := ⟨_, rfl⟩
      obtain ⟨y, hy⟩ : ∃ y, l[m]?.getD 0 = y := ⟨_, rfl⟩
      rw [hx] at g1
      rw [hy] at g2
      have HX := Lib.hid hx; have HY := Lib.hid hy
      have e1 : IntKind.i64.wrap (((m + 1 : Nat) : Int) - 1) = (m : Int) := by rw [IntWalk.i64_in _ (by omega)]; omega
      have k1 : ((m + 1 : Nat) : Int) < (l.length : Int) := by omega
      have k2 : (m : Int) < (l.length : Int) := by omega
      have k3 : (0 : Int) ≤ (m : Int) := by omega
      have k4 : (0 : Int) ≤ ((m + 1 : Nat) : Int) := by omega
      have k5 : ((m + 1 : Nat) : Int).toNat = m + 1 := by omega
      clear hx hy hcell
      go_wp2_with fail
      go_quiet ((go_at_call 75; exact Calls.quiet_of_same (Sh.cmp_Less_int2 _ _ _)))
      go_wp2_with fail
      · have hd : x < y := by first | assumption | omega
        go_ret
        refine ⟨ret_bool (decide_eq_false (not_up (k := m) (by omega) ?_)).symm, bel_drewN hB _⟩
        rw [HX.out, HY.out]; exact hd
      · go_roundw
        case rel =>
          have hd : ¬ x < y := by first | assumption | omega
          refine ⟨(m : Int), by go_num, by omega, by omega, fun j h1 h2 => ?_, bel_drewN hB _⟩
          by_cases hjm : j = m
          · subst hjm
            rw [HX.out, HY.out]
            omega
          · exact HU.out j (by omega) h2
        case measure => simp [intOf]
    · go_wp2_with fail
      go_ret
      have h0 : k.toNat = 0 := by omega
      have hU := HU.out
      rw [h0] at hU
      exact ⟨ret_bool (decide_eq_true (up_zero hU)).symm, hB⟩

theorem below_putRow {n q : Nat} {w0 w : World} {enc : Int → Value} {blk off : Nat} {d : Array Int} (h : Below n w0 w) (hg : n ≤ blk) : Below n w0 (Sort.putRow enc (Sort.ahead w q) blk off d) :=
  ⟨h.os, h.tape, h.output, by rw [Sort.size_putRow]; exact h.size, fun k hk => by
    refine Eq.trans ?_ (h.block k hk)
    show (Array.modify _ blk _)[k]? = _
    rw [Array.getElem?_modify, if_neg (by omega)]; rfl⟩
/-- No two neighbours are equal. -/
def Apart (l : List Int) : Prop := ∀ j, j + 1 < l.length → l[j]?.getD 0 ≠ l[j + 1]?.getD 0
theorem compact_len (l : List Int) : ((Lib.compact l).length = l.length) ↔ Apart l := by
  constructor
  · intro h j hj e
    have hlen : (Lib.compact l).length = ((List.range l.length).filter (Lib.keeps l.toArray)).length := by simp [Lib.compact, Lib.compactUpTo]
    have hall : (List.range l.length).filter (Lib.keeps l.toArray) = List.range l.length := by
      apply List.Sublist.eq_of_length List.filter_sublist
      rw [← hlen, h, List.length_range]
    have := List.filter_eq_self.1 hall (j + 1) (List.mem_range.2 hj)
    simp only [Lib.keeps, decide_eq_true_eq] at this
    rcases this with h0 | h0
    · omega
    · apply h0
      have g1 : l.toArray[j + 1]! = l[j + 1]?.getD 0 := by simp [hj]
      have g2 : l.toArray[j + 1 - 1]! = l[j]?.getD 0 := by simp [show j < l.length by omega]
      rw [g1, g2]; exact e.symm
  · intro h
    rw [Lib.compact_all]
    intro j hj
    simp only [Lib.keeps, decide_eq_true_eq]
    cases j with
    | zero => exact .inl rfl
    | succ j =>
      right
      have g1 : l.toArray[j + 1]! = l[j + 1]?.getD 0 := by simp [hj]
      have g2 : l.toArray[j + 1 - 1]! = l[j]?.getD 0 := by simp [show j < l.length by omega]
      rw [g1, g2]
      exact fun e => h j hj e.symm
/-- slices.Compact of numbers that the call owns: how many are left. -/
theorem Compact_own (v : Value) (l : List Int) (base : Nat) (w : World) (h : w.ownsRow base 3 1 v l.length (l.map (Value.int .i64))) (hl : l.length ≤ 1000000) (hb : base ≤ w.heap.size) :
    Calls Tryz.prog 73 #[v] w fun e w' => (∃ a c, e = .returned (.slice a (Lib.compact l).length c)) ∧ Below base w w' := by
  rcases h.2 with ⟨rfl, h0⟩ | ⟨g, cap, cur, rfl, hg, hh, hnc, hcm, hcs, ht⟩
  · obtain rfl : l = [] := List.length_eq_zero_iff.1 h0
    refine (Sh.slices_Compact_int_empty none 0 w).mono ?_
    rintro e w' ⟨rfl, rfl⟩
    exact ⟨⟨none, 0, by simp [Lib.compact, Lib.compactUpTo]⟩, Below.refl _ _⟩
  · have hH : Sort.Holds (Value.int .i64) w g 0 l.toArray := by
      intro j hj
      have hj' : j < l.length := by simpa using hj
      refine ⟨?_, owns_free h (0 + j)⟩
      rw [Nat.zero_add, owns_cell64 h j hj']
      simp [hj']
    refine (Sh.slices_Compact_int g 0 cap l w hH (by omega) hnc).mono ?_
    rintro e w' ⟨rfl, q, rfl⟩
    exact ⟨⟨_, _, rfl⟩, below_putRow (Below.refl _ _) hg⟩
end Go.Proofs.YtikgdpfnpcfkkaaGreatDoor
