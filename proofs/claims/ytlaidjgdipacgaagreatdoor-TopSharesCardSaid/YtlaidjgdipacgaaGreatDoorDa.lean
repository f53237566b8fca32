/-
  Walks over package der: what a tag asks of the content (least, kinds' functions), find.
-/
import Derived.Test.YtlaidjgdipacgaaGreatDoorDi
import Derived.Test.YtlaidjgdipacgaaGreatDoorOn
import Derived.Test.YtlaidjgdipacgaaGreatDoorKb
import Derived.Laws.ResultCell
namespace Go.Proofs.YtlaidjgdipacgaaGreatDoor
open Go.RowKit

def kTag : Nat → Int
  | 0 => 1
  | 1 => 2
  | 2 => 4
  | 3 => 12
  | _ => 48
def kFn : Nat → FuncId
  | 0 => 209
  | 1 => 37
  | 2 => 210
  | 3 => 211
  | _ => 214
/-- The table of the kinds lies where its initialiser laid it. -/
def KindsAt (W : World) : Prop := ∀ i, i < 5 → W.cell? ⟨0, i * 2, none⟩ = some (.int .i64 (kTag i)) ∧ W.cell? ⟨0, i * 2 + 1, none⟩ = some (.func (.func (kFn i)) #[] #[])
theorem KindsAt.lt {W : World} (h : KindsAt W) : 0 < W.heap.size := World.block_lt_of_cell? W _ (h 0 (by decide)).1
theorem KindsAt.below {W V : World} (h : KindsAt W) (hb : Below W.heap.size W V) : KindsAt V := fun i hi => ⟨(hb.cell (p := ⟨0, _, none⟩) h.lt).trans (h i hi).1, (hb.cell (p := ⟨0, _, none⟩) h.lt).trans (h i hi).2⟩
theorem KindsAt.stp {W V : World} (h : KindsAt W) (s : Stp W V) : KindsAt V := h.below s
theorem KindsAt.alloc {W : World} (h : KindsAt W) (o : Obj) : KindsAt (W.alloc o) := h.below ((Below.refl _ W).alloc (Nat.le_refl _) o)
theorem KindsAt.drew {W : World} (h : KindsAt W) : KindsAt W.drew := h.below (Below.refl _ W).drew
theorem known_iff (t : Int) : Dm.known t = true ↔ ∃ k, k < 5 ∧ kTag k = t := by
  unfold Dm.known
  constructor
  · intro h
    simp only [Bool.or_eq_true, decide_eq_true_eq] at h
    rcases h with (((rfl | rfl) | rfl) | rfl) | rfl
    · exact ⟨0, by decide, rfl⟩
    · exact ⟨1, by decide, rfl⟩
    · exact ⟨2, by decide, rfl⟩
    · exact ⟨3, by decide, rfl⟩
    · exact ⟨4, by decide, rfl⟩
  · rintro ⟨k, hk, rfl⟩
    match k, hk with
    | 0, _ => decide
    | 1, _ => decide
    | 2, _ => decide
    | 3, _ => decide
    | 4, _ => decide

/-- The first cell of a row that has one. -/
theorem Row.cellAt {k : IntKind} {w : World} {a : Option Addr} {n c : Nat} {l : List Int} (h : Row k w (.slice a n c) l) (i : Nat) (hi : i < l.length) : ∃ b o, a = some ⟨b, o, none⟩ ∧ b < w.heap.size ∧ w.cell? ⟨b, o + i, none⟩ = some (.int k (l[i]?.getD 0)) := by
  obtain ⟨_, _, e, _, _, _, _, h5⟩ := h
  cases e
  obtain ⟨b, o, rfl, hlt, hc⟩ := h5 (by rintro rfl; simp at hi)
  exact ⟨b, o, rfl, hlt, hc i hi⟩

set_option maxHeartbeats 1000000 in
theorem least_any (v : Value) (l : List Int) (w : World) (h : Row .u8 w v l) (hl : l.length ≤ 140737488355328) :
    Calls Tryz.prog 37 #[v] w fun e w' => e = .returned (.bool (Dm.least l)) ∧ w = w' := by
  have hby := h.all_byte
  obtain ⟨a, c, rfl⟩ := h.shape l.length rfl
  match l, h, hby, hl with
  | [], _, _, _ =>
    go_enter Tryz.func37, Tryz.ntmps37
    go_wp2_with fail
    go_ret
    exact ⟨rfl, rfl⟩
  | [x], _, _, _ =>
    go_enter Tryz.func37, Tryz.ntmps37
    go_wp2_with fail
    go_ret
    exact ⟨rfl, rfl⟩
  | x :: y :: r, h, hby, hl =>
    obtain ⟨b, o, rfl, hlt, c0⟩ := h.cellAt 0 (by simp)
    obtain ⟨_, _, e, _, c1⟩ := h.cellAt 1 (by simp)
    cases e
    simp only [List.getElem?_cons_zero, Option.getD_some, List.getElem?_cons_succ, Nat.add_zero] at c0 c1
    have hx := hby x (by simp); have hy := hby y (by simp)
    unfold byte at hx hy
    obtain ⟨n, hn⟩ : ∃ n, r.length = n := ⟨_, rfl⟩
    have hlen : (x :: y :: r).length = n + 2 := by simp [hn]
    rw [hlen] at h hl ⊢
    have n0 : (0 : Int) ≤ (n : Int) := by omega
    have q1 : ¬ ((n + 2 : Nat) : Int) = 0 := by omega
    have q2 : ¬ ((n + 2 : Nat) : Int) = 1 := by omega
    have q3 : (1 : Int) < ((n + 2 : Nat) : Int) := by omega
    have q4 : (0 : Int) < ((n + 2 : Nat) : Int) := by omega
    have hL : Dm.least (x :: y :: r) = (decide (n ≤ 6) && !decide (x = if y < 128 then 0 else 255)) := by show (decide (r.length ≤ 6) && _) = _; rw [hn]
    rw [hL]
    clear hL h hby hn hlen
    by_cases h8 : n ≤ 6
    · have h8' : ((n + 2 : Nat) : Int) ≤ 8 := by omega
      by_cases hy1 : y < 128
      · have ey : y / 128 = 0 := by omega
        rw [if_pos hy1]
        by_cases hx1 : x = 0
        · subst hx1
          go_enter Tryz.func37, Tryz.ntmps37
          go_wp2_with fail
          go_ret
          exact ⟨ret_bool (by simp [h8]), rfl⟩
        · go_enter Tryz.func37, Tryz.ntmps37
          go_wp2_with fail
          go_ret
          exact ⟨ret_bool (by simp [h8, hx1]), rfl⟩
      · have ey : y / 128 = 1 := by omega
        rw [if_neg hy1]
        by_cases hx1 : x = 255
        · subst hx1
          go_enter Tryz.func37, Tryz.ntmps37
          go_wp2_with fail
          go_ret
          exact ⟨ret_bool (by simp), rfl⟩
        · go_enter Tryz.func37, Tryz.ntmps37
          go_wp2_with fail
          go_ret
          exact ⟨ret_bool (by simp [hx1]), rfl⟩
    · have h8' : ¬ ((n + 2 : Nat) : Int) ≤ 8 := by omega
      go_enter Tryz.func37, Tryz.ntmps37
      go_wp2_with fail
      go_ret
      exact ⟨ret_bool (by simp), rfl⟩

theorem kBool_any (v : Value) (l : List Int) (w : World) (h : Row .u8 w v l) (hl : l.length ≤ 140737488355328) :
    Calls Tryz.prog 209 #[v] w fun e w' => e = .returned (.bool (Dm.mayB 1 l)) ∧ w = w' := by
  obtain ⟨a, c, rfl⟩ := h.shape l.length rfl
  have hm : Dm.mayB 1 l = (decide (l = [0]) || decide (l = [255])) := rfl
  rw [hm]
  match l, h, hl with
  | [], _, _ =>
    go_enter Tryz.func209, Tryz.ntmps209
    go_wp2_with fail
    go_ret
    exact ⟨rfl, rfl⟩
  | [x], h, _ =>
    obtain ⟨b, o, rfl, hlt, c0⟩ := h.cellAt 0 (by simp)
    simp only [List.getElem?_cons_zero, Option.getD_some, Nat.add_zero] at c0
    by_cases hx : x = 0
    · subst hx
      go_enter Tryz.func209, Tryz.ntmps209
      go_wp2_with fail
      go_ret
      exact ⟨rfl, rfl⟩
    · go_enter Tryz.func209, Tryz.ntmps209
      go_wp2_with fail
      go_ret
      exact ⟨ret_bool (by simp [hx, Bool.beq_eq_decide_eq]), rfl⟩
  | x :: y :: r, h, hl =>
    obtain ⟨n, hn⟩ : ∃ n, (x :: y :: r).length = n := ⟨_, rfl⟩
    have n2 : ¬ (n : Int) = 1 := by simp at hn; omega
    rw [hn]
    go_enter Tryz.func209, Tryz.ntmps209
    go_wp2_with fail
    go_ret
    exact ⟨ret_bool (by simp), rfl⟩
theorem kOct_any (v : Value) (l : List Int) (w : World) : Calls Tryz.prog 210 #[v] w fun e w' => e = .returned (.bool (Dm.mayB 4 l)) ∧ w = w' := by
  have hm : Dm.mayB 4 l = true := rfl
  rw [hm]
  go_enter Tryz.func210, Tryz.ntmps210
  go_wp2_with fail
  go_ret
  exact ⟨rfl, rfl⟩
theorem kSeq_any (v : Value) (l : List Int) (w : World) (h : Row .u8 w v l) : Calls Tryz.prog 214 #[v] w fun e w' => e = .returned (.bool (Dm.mayB 48 l)) ∧ w = w' := by
  obtain ⟨a, c, rfl⟩ := h.shape l.length rfl
  have hm : Dm.mayB 48 l = l.isEmpty := rfl
  rw [hm]
  cases l with
  | nil =>
    go_enter Tryz.func214, Tryz.ntmps214
    go_wp2_with fail
    go_ret
    exact ⟨rfl, rfl⟩
  | cons x r =>
    obtain ⟨n, hn⟩ : ∃ n, (x :: r).length = n := ⟨_, rfl⟩
    have n2 : ¬ n = 0 := by simp at hn; omega
    rw [hn]
    go_enter Tryz.func214, Tryz.ntmps214
    go_wp2_with fail
    go_ret
    exact ⟨ret_bool (by simp; exact n2), rfl⟩
def okC (c : Int) : Bool := decide (32 ≤ c) && decide (c ≤ 126)
theorem kChar_any (c : Int) (w : World) (hc : byte c) : Calls Tryz.prog 213 #[.int .u8 c] w fun e w' => e = .returned (.bool (!okC c)) ∧ w = w' := by
  unfold byte at hc
  unfold okC
  by_cases h1 : c < 32
  · go_enter Tryz.func213, Tryz.ntmps213
    go_wp2_with fail
    go_ret
    exact ⟨ret_bool (by first | (simp; done) | (simp; omega)), rfl⟩
  · by_cases h2 : 126 < c
    · go_enter Tryz.func213, Tryz.ntmps213
      go_wp2_with fail
      go_ret
      exact ⟨ret_bool (by first | (simp; done) | (simp; omega)), rfl⟩
    · go_enter Tryz.func213, Tryz.ntmps213
      go_wp2_with fail
      go_ret
      exact ⟨ret_bool (by first | (simp; done) | (simp; omega)), rfl⟩
end Go.Proofs.YtlaidjgdipacgaaGreatDoor
