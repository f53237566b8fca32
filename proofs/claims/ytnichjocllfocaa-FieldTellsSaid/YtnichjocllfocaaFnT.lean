/-
  The walk over the law FieldTells.
-/
import Derived.Test.YtnichjocllfocaaFl
namespace Go.Proofs.Ytnichjocllfocaa
open Go.RowKit

def low (l : List Int) : List Int := l.map (· % Fm.P)
theorem low_eval (l : List Int) (a : Int) : Fm.eval (low l) (a % Fm.P) = Fm.eval l a := by
  induction l with
  | nil => rfl
  | cons c t ih => show Fm.add (Fm.mul (Fm.eval (low t) (a % Fm.P)) (a % Fm.P)) (c % Fm.P) = _; rw [ih, Fm.add_emod_r, Fm.mul_emod_r]; rfl
/-- After k rounds: the first k parts are reduced, the others 0. -/
def lowTo (l : List Int) (k : Nat) : List Int := low (l.take k) ++ List.replicate (l.length - k) 0
theorem lowTo_length (l : List Int) (k : Nat) (hk : k ≤ l.length) : (lowTo l k).length = l.length := by
  simp [lowTo, low]; omega
theorem lowTo_succ (l : List Int) (k : Nat) (hk : k < l.length) : (lowTo l k).set k (l[k]?.getD 0 % Fm.P) = lowTo l (k + 1) := by
  apply List.ext_getElem?
  intro i
  rw [List.getElem?_set]
  unfold lowTo low
  have e1 : (List.map (fun x => x % Fm.P) (List.take k l)).length = k := by simp; omega
  have e2 : (List.map (fun x => x % Fm.P) (List.take (k + 1) l)).length = k + 1 := by simp; omega
  by_cases h1 : k = i
  · subst h1
    have : k < (List.map (fun x => x % Fm.P) (List.take k l) ++ List.replicate (l.length - k) 0).length := by simp; omega
    rw [if_pos rfl, if_pos this, List.getElem?_append_left (by rw [e2]; omega), List.getElem?_map, List.getElem?_take_of_lt (by omega), List.getElem?_eq_getElem hk]; rfl
  · rw [if_neg h1]
    by_cases h2 : i < k
    · rw [List.getElem?_append_left (by rw [e1]; exact h2), List.getElem?_append_left (by rw [e2]; omega), List.getElem?_map, List.getElem?_map, List.getElem?_take_of_lt h2, List.getElem?_take_of_lt (by omega)]
    · rw [List.getElem?_append_right (by rw [e1]; omega), List.getElem?_append_right (by rw [e2]; omega), e1, e2, List.getElem?_replicate, List.getElem?_replicate]
      by_cases h3 : i < l.length
      · rw [if_pos (by omega), if_pos (by omega)]
      · rw [if_neg (by omega), if_neg (by omega)]

set_option maxRecDepth 100000 in
set_option maxHeartbeats 2000000 in
theorem FieldTells_any (a b : Int) (v1 : Value) (l1 : List Int) (v2 : Value) (l2 : List Int) (w : World) (wa : (Lit.int .u64 a).wf = true) (wb : (Lit.int .u64 b).wf = true) (h1 : Row .u8 w v1 l1) (h2 : Row .u64 w v2 l2) :
    Calls Try.prog 9 #[.int .u64 a, .int .u64 b, v1, v2] w fun e w' => e = .returned (.bool true) ∧ Below w.heap.size w w' := by
  have ua := Lib.hid (U64.of_wf wa)
  have ub := Lib.hid (U64.of_wf wb)
  have H1 := Lib.hid h1
  have H2 := Lib.hid h2
  obtain ⟨a1, c1, rfl, hl1, hc1, -, hw1, _⟩ := h1
  obtain ⟨a2, c2, rfl, hl2, hc2, -, hw2, hr2⟩ := h2
  have HB := Lib.hid (show ∀ x ∈ l1, byte x from fun x hx => byte_wf (hw1 x hx))
  have HW2 := Lib.hid hw2
  have HR2 := Lib.hid hr2
  clear wa wb hw1 hw2 hr2
  unfold maxLen at hc1 hc2
  by_cases g1 : 2000 < l1.length
  · go_enter Try.func9, Try.ntmps9
    go_wp2_with fail
    refine (live_any _).mono ?_; rintro e w1 ⟨rfl, hb1⟩
    go_wp2_with fail
    go_ret
    exact ⟨rfl, hb1⟩
  have g1' : l1.length ≤ 2000 := by omega
  by_cases g2 : 100 < l2.length
  · go_enter Try.func9, Try.ntmps9
    go_wp2_with fail
    refine (live_any _).mono ?_; rintro e w1 ⟨rfl, hb1⟩
    go_wp2_with fail
    go_ret
    exact ⟨rfl, hb1⟩
  have g2' : l2.length ≤ 100 := by omega
  obtain ⟨i0, hi, hz0, hz1, hz2⟩ := info_parts info_u64
  obtain ⟨x, hx⟩ : ∃ x, a.tmod 2305843009213693951 = x := ⟨_, rfl⟩
  have HX := Lib.hid (show a % Fm.P = x by rw [← hx]; exact (Int.tmod_eq_emod_of_nonneg ua.out.1).symm)
  obtain ⟨y, hy⟩ : ∃ y, b.tmod 2305843009213693951 = y := ⟨_, rfl⟩
  have HY := Lib.hid (show b % Fm.P = y by rw [← hy]; exact (Int.tmod_eq_emod_of_nonneg ub.out.1).symm)
  go_enter Try.func9, Try.ntmps9
  go_wp2_with fail
  refine (live_any _).mono ?_; rintro e w1 ⟨rfl, hb1⟩
  go_wp2_with fail
  refine (Of_any _ l1 _ (H1.out.below hb1) (by omega)).mono ?_; rintro e w2 ⟨r, rfl, hr, hb⟩
  have hb2 := hb1.trans (hb.mono hb1.size)
  obtain ⟨a3, c3, rfl, hl3, hc3, -, _, hr3⟩ := hr
  have HR3 := Lib.hid hr3
  have hn3 := elems_length l1
  have hn3' : (elems l1).length ≤ 300 := by omega
  have HN3 := Lib.hid hn3
  clear hr3 hn3 hc3 hb hb1
  go_wp2_with fail
  go_loop [10] (fun i => ∃ k : Nat, k ≤ (elems l1).length ∧ i = .int .i64 k) (fun i => (elems l1).length - (intOf i).toNat)
  case atStart => exact ⟨0, Nat.zero_le _, rfl⟩
  case round =>
    obtain ⟨k, hk, rfl⟩ := hrel
    by_cases hlt : k < (elems l1).length
    · obtain ⟨b3, o3, rfl, hb3, hx3⟩ := HR3.out (by intro h0; rw [h0] at hlt; simp at hlt)
      have g3 := hx3 k hlt
      have hrg := elem_rng l1 HB.out k
      obtain ⟨e, he⟩ : ∃ e, (elems l1)[k]?.getD 0 = e := ⟨_, rfl⟩
      have hee : elem l1 k = e := by rw [← he, elems, upto, List.getElem?_map, List.getElem?_range (by rw [← HN3.out]; exact hlt)]; rfl
      rw [he] at g3
      rw [hee] at hrg
      have hd : decide (2305843009213693951 ≤ e) = false := by simp; omega
      clear hx3 he hee hrg
      go_wp2_with fail
      go_round
      case rel => exact ⟨k + 1, by omega, by go_num⟩
      case measure => simp [intOf]; omega
    · go_wp2_with (refine wpList_make_full _ rfl _ _ 30 rfl w.heap.size 22 i0 (.int .u64 0) 1 Try.underlying30 hi hz0 hz1 .i64 .i64 l2.length l2.length l2.length rfl rfl rfl rfl (by rw [hz2]; omega) (by unfold maxLen; omega) hb2.size ?_; intro w3 hown hgrow)
      have hown1 : w3.ownsRow w.heap.size 22 1 (.slice (some ⟨w2.heap.size, 0, none⟩) l2.length l2.length) l2.length ((lowTo l2 0).map (Value.int .u64)) := by
        have e : (madeCells (Value.int .u64 0).cells (l2.length * 1)).toList = (lowTo l2 0).map (Value.int .u64) := by
          rw [Nat.mul_one]; show (madeCells #[Value.int .u64 0] l2.length).toList = _
          rw [toList_madeCells_one]; simp [lowTo, low]
        rw [← e]; exact hown
      have hb3 : Below w.heap.size w w3 := hb2.grown hgrow hb2.size (fun k e => by cases e)
      have hsz : w2.heap.size < w3.heap.size := by
        rcases hown.2 with ⟨h, _⟩ | ⟨g, cap, cur, h, _, hh, _⟩
        · cases h
        · cases h; exact (Array.getElem?_eq_some_iff.1 hh).1
      have hge := hb2.size
      clear hown hgrow
      go_loopw [12] (fun i wr => ∃ k : Nat, k ≤ l2.length ∧ i = .int .i64 k ∧ wr.ownsRow w.heap.size 22 1 (.slice (some ⟨w2.heap.size, 0, none⟩) l2.length l2.length) l2.length ((lowTo l2 k).map (Value.int .u64)) ∧ Below w.heap.size w wr) (fun i _ => l2.length - (intOf i).toNat)
      case atStart => exact ⟨0, Nat.zero_le _, rfl, hown1, hb3⟩
      case round =>
        obtain ⟨k, hk, rfl, hown, hB⟩ := hrel
        by_cases hlt : k < l2.length
        · obtain ⟨b2, o2, rfl, hb2', hx2⟩ := HR2.out (by intro h0; rw [h0] at hlt; simp at hlt)
          have g4 := (hB.cell (p := ⟨b2, o2 + k, none⟩) hb2').trans (hx2 k hlt)
          have hfz := hown.frozenAt k
          have hcl := hown.cellAt k (by omega)
          rw [List.getElem?_map, List.getElem?_eq_getElem (by rw [lowTo_length _ _ (by omega)]; exact hlt)] at hcl
          have hst := hown.stored k (.int .u64 (l2[k]?.getD 0 % Fm.P))
          rw [← List.map_set, lowTo_succ l2 k hlt] at hst
          obtain ⟨c, hc⟩ : ∃ c, l2[k]?.getD 0 = c := ⟨_, rfl⟩
          have uc : U64 c := U64.of_wf (HW2.out c (by rw [← hc, List.getElem?_eq_getElem hlt]; exact List.getElem_mem hlt))
          rw [hc] at g4 hst
          have em : c.tmod 2305843009213693951 = c % Fm.P := Int.tmod_eq_emod_of_nonneg uc.1
          have HS := Lib.hid hst
          clear hx2 hc hst uc
          simp only [Option.map_some] at hcl
          go_wp2_with fail
          go_roundw
          case rel => exact ⟨k + 1, by omega, by go_num, HS.out.1, hB.setCell (p := ⟨w2.heap.size, k, none⟩) hge _⟩
          case measure => simp [intOf]; omega
        · obtain rfl : k = l2.length := by omega
          have hlow : lowTo l2 l2.length = low l2 := by simp [lowTo]
          rw [hlow] at hown
          have hrow : Row .u64 wr (.slice (some ⟨w2.heap.size, 0, none⟩) l2.length l2.length) (low l2) := by
            refine Row.of_owns (base := w.heap.size) (e := 22) (by rw [show (low l2).length = l2.length by simp [low]]; exact hown) ?_
            intro z hz
            obtain ⟨c, _, rfl⟩ := List.mem_map.1 hz
            have := Fm.rng c
            unfold Fm.P at this ⊢
            simp [Lit.wf, IntKind.min, IntKind.max, IntKind.bits, IntKind.signed]; omega
          have ux : U64 x := by have := Fm.rng a; rw [HX.out] at this; exact U64.of_rng this
          have uy : U64 y := by have := Fm.rng b; rw [HY.out] at this; exact U64.of_rng this
          have e1 := Lib.hid (show Fm.add x y = Fm.add a b by rw [← HX.out, ← HY.out, Fm.add_emod_l, Fm.add_emod_r])
          have e2 := Lib.hid (show Fm.sub x y = Fm.sub a b by rw [← HX.out, ← HY.out, Fm.sub_emod_l, Fm.sub_emod_r])
          have e3 := Lib.hid (show Fm.mul x y = Fm.mul a b by rw [← HX.out, ← HY.out, Fm.mul_emod_l, Fm.mul_emod_r])
          have e4 := Lib.hid (show Fm.pow x b.toNat = Fm.pow a b.toNat by rw [← HX.out, Fm.pow_emod])
          have e5 := Lib.hid (show Fm.eval (low l2) x = Fm.eval l2 a by rw [← HX.out, low_eval])
          have d1 : decide (Fm.add a b < 2305843009213693951) = true := decide_eq_true (Fm.add_rng a b).2
          have d2 : decide (Fm.sub a b < 2305843009213693951) = true := decide_eq_true (Fm.sub_rng a b).2
          have d3 : decide (Fm.mul a b < 2305843009213693951) = true := decide_eq_true (Fm.mul_rng a b).2
          have d4 : decide (Fm.pow a b.toNat < 2305843009213693951) = true := decide_eq_true (Fm.pow_rng a _).2
          have d5 : decide (Fm.eval l2 a < 2305843009213693951) = true := decide_eq_true (Fm.eval_rng l2 a).2
          have HRow := Lib.hid hrow
          clear hown hlow hrow
          go_wp2_with fail
          refine (Add_any a b _ ua.out ub.out).mono ?_; rintro e w' ⟨rfl, rfl⟩
          go_wp2_with fail
          refine (Add_any x y _ ux uy).mono ?_; rintro e w' ⟨rfl, rfl⟩
          rw [e1.out]
          go_wp2_with fail
          refine (Sub_any a b _ ua.out ub.out).mono ?_; rintro e w' ⟨rfl, rfl⟩
          go_wp2_with fail
          refine (Sub_any x y _ ux uy).mono ?_; rintro e w' ⟨rfl, rfl⟩
          rw [e2.out]
          go_wp2_with fail
          refine (Mul_any a b _ ua.out ub.out).mono ?_; rintro e w' ⟨rfl, rfl⟩
          go_wp2_with fail
          refine (Mul_any x y _ ux uy).mono ?_; rintro e w' ⟨rfl, rfl⟩
          rw [e3.out]
          go_wp2_with fail
          refine (Pow_any a b _ ua.out ub.out).mono ?_; rintro e w' ⟨rfl, rfl⟩
          go_wp2_with fail
          refine (Pow_any x b _ ux ub.out).mono ?_; rintro e w' ⟨rfl, rfl⟩
          rw [e4.out]
          go_wp2_with fail
          refine (Eval_any _ l2 a _ (H2.out.below hB) ua.out).mono ?_; rintro e w5 ⟨rfl, hb5⟩
          have hB5 := hB.trans (hb5.mono hB.size)
          go_wp2_with fail
          refine (Eval_any _ (low l2) x _ (HRow.out.below hb5) ux).mono ?_; rintro e w6 ⟨rfl, hb6⟩
          rw [e5.out]
          have hB6 := hB5.trans (hb6.mono hB5.size)
          go_wp2_with fail
          refine (Add_any a b _ ua.out ub.out).mono ?_; rintro e w' ⟨rfl, rfl⟩
          go_wp2_with fail
          refine (Sub_any a b _ ua.out ub.out).mono ?_; rintro e w' ⟨rfl, rfl⟩
          go_wp2_with fail
          refine (Mul_any a b _ ua.out ub.out).mono ?_; rintro e w' ⟨rfl, rfl⟩
          go_wp2_with fail
          refine (Pow_any a b _ ua.out ub.out).mono ?_; rintro e w' ⟨rfl, rfl⟩
          go_wp2_with fail
          refine (Eval_any _ l2 a _ (H2.out.below hB6) ua.out).mono ?_; rintro e w7 ⟨rfl, hb7⟩
          have hB7 := hB6.trans (hb7.mono hB6.size)
          go_wp2_with fail
          go_ret
          exact ⟨rfl, hB7⟩
end Go.Proofs.Ytnichjocllfocaa
