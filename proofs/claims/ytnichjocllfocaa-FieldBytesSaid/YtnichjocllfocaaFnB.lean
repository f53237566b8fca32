/-
  The walk over the law FieldBytes.
-/
import Derived.Test.YtnichjocllfocaaFl
import Derived.Test.YtnichjocllfocaaAp
namespace Go.Proofs.Ytnichjocllfocaa
open Go.RowKit

theorem and16 (n : Int) : bits .and .i64 n 65535 = n % 65536 := by
  have h127 : (BitVec.ofInt 64 65535).toNat = 2 ^ 16 - 1 := by decide
  have key : (BitVec.ofInt 64 n &&& BitVec.ofInt 64 65535).toNat = (n % ((2 ^ 64 : Nat) : Int)).toNat % 2 ^ 16 := by
    rw [BitVec.toNat_and, BitVec.toNat_ofInt, h127, Nat.and_two_pow_sub_one_eq_mod]
  show IntKind.i64.wrap ((BitVec.ofInt 64 n &&& BitVec.ofInt 64 65535).toNat : Nat) = n % 65536
  rw [key, IntKind.wrap_i64]
  omega

/-- A byte taken out again. -/
theorem le_digit (l : List Int) (h : ∀ x ∈ l, byte x) (m : Nat) (hm : m < l.length) : le l / 256 ^ m % 256 = l[m]?.getD 0 := by
  induction l generalizing m with
  | nil => simp at hm
  | cons c t ih =>
    have hc := h c (by simp)
    unfold byte at hc
    cases m with
    | zero => simp only [le, Int.pow_zero, Int.ediv_one]; simp; omega
    | succ m =>
      simp only [le]
      rw [Int.pow_succ, Int.mul_comm (256 ^ m) 256, ← Int.ediv_ediv_of_nonneg (show (0 : Int) ≤ 256 by omega), show (c + 256 * le t) / 256 = le t by omega, ih (fun x hx => h x (by simp [hx])) m (by simpa using hm)]
      simp
theorem elem_digit (l : List Int) (h : ∀ x ∈ l, byte x) (i : Nat) (hi : i < l.length) : elem l (i / 7) / 256 ^ (i % 7) % 256 = l[i]?.getD 0 := by
  unfold elem
  have hlen : i % 7 < ((l.drop (7 * (i / 7))).take 7).length := by simp; omega
  rw [le_digit _ (fun x hx => h x (List.mem_of_mem_drop (List.mem_of_mem_take hx))) _ hlen, List.getElem?_take_of_lt (by omega), List.getElem?_drop]
  congr 2; omega
theorem elems_cut (l : List Int) (j : Nat) (hj : 7 * j ≤ l.length) : elems (l.take (7 * j)) ++ elems (l.drop (7 * j)) = elems l := by
  have hl1 : (l.take (7 * j)).length = 7 * j := by simp; omega
  have hl2 : (l.drop (7 * j)).length = l.length - 7 * j := by simp
  apply List.ext_getElem?
  intro i
  have len1 : (elems (l.take (7 * j))).length = j := by rw [elems_length, hl1]; omega
  have len2 : (elems (l.drop (7 * j))).length = (l.length + 6) / 7 - j := by rw [elems_length, hl2]; omega
  have get : ∀ (m : List Int) (i : Nat), i < (m.length + 6) / 7 → (elems m)[i]? = some (elem m i) := by
    intro m i hi
    rw [elems, upto, List.getElem?_map, List.getElem?_range hi]; rfl
  by_cases h1 : i < j
  · rw [List.getElem?_append_left (by rw [len1]; exact h1), get _ _ (by rw [hl1]; omega), get _ _ (by omega)]
    unfold elem
    rw [List.drop_take, List.take_take, Nat.min_eq_left (by omega)]
  · rw [List.getElem?_append_right (by rw [len1]; omega), len1]
    by_cases h2 : i < (l.length + 6) / 7
    · rw [get _ _ (by rw [hl2]; omega), get _ _ h2]
      unfold elem
      rw [List.drop_drop]; congr 4; omega
    · rw [List.getElem?_eq_none (by rw [len2]; omega), List.getElem?_eq_none (by rw [elems_length]; omega)]

set_option maxRecDepth 100000 in
set_option maxHeartbeats 2000000 in
theorem FieldBytes_any (v1 : Value) (l1 : List Int) (k : Int) (w : World) (h1 : Row .u8 w v1 l1) (_wk : (Lit.int .i64 k).wf = true) :
    Calls Try.prog 10 #[v1, .int .i64 k] w fun e w' => e = .returned (.bool true) ∧ Below w.heap.size w w' := by
  have H1 := Lib.hid h1
  obtain ⟨a1, c1, rfl, hl1, hc1, hn1, hw1, hr1⟩ := h1
  have HB := Lib.hid (show ∀ x ∈ l1, byte x from fun x hx => byte_wf (hw1 x hx))
  have HR1 := Lib.hid hr1
  have HN1 := Lib.hid hn1
  clear hw1 hr1 hn1
  unfold maxLen at hc1
  by_cases g1 : 2000 < l1.length
  · go_enter Try.func10, Try.ntmps10
    go_wp2_with fail
    refine (live_any _).mono ?_; rintro e w1 ⟨rfl, hb1⟩
    go_wp2_with fail
    go_ret
    exact ⟨rfl, hb1⟩
  have g1' : l1.length ≤ 2000 := by omega
  obtain ⟨i0, hi, hz0, hz1, hz2⟩ := info_parts info_u64
  obtain ⟨q, hq⟩ : ∃ q, bits .and .i64 k 65535 = q := ⟨_, rfl⟩
  have hq0 : 0 ≤ q ∧ q ≤ 65535 := by rw [← hq, and16]; omega
  obtain ⟨j0, hj0⟩ : ∃ j0 : Nat, q % ((l1.length : Int) / 7 + 1) = j0 := Int.eq_ofNat_of_zero_le (Int.emod_nonneg _ (by omega))
  have hj1 : 7 * j0 ≤ l1.length := by
    have := Int.emod_lt_of_pos q (show 0 < (l1.length : Int) / 7 + 1 by omega)
    omega
  go_enter Try.func10, Try.ntmps10
  go_wp2_with fail
  refine (live_any _).mono ?_; rintro e w1 ⟨rfl, hb1⟩
  go_wp2_with fail
  refine (Of_any _ l1 _ (H1.out.below hb1) (by omega)).mono ?_; rintro e w2 ⟨r, rfl, hr, hb⟩
  have hb2 := hb1.trans (hb.mono hb1.size)
  have HRow := Lib.hid hr
  obtain ⟨a3, c3, rfl, hl3, hc3, -, _, hr3⟩ := hr
  have HR3 := Lib.hid hr3
  have hn3 := elems_length l1
  have HN3 := Lib.hid hn3
  obtain ⟨n3, en3⟩ : ∃ n3, (elems l1).length = n3 := ⟨_, rfl⟩
  rw [en3] at hn3 hl3
  have hne : ((n3 : Int) != ((l1.length : Int) + 6) / 7) = false := by simp; omega
  have hn3' : n3 ≤ 300 := by omega
  rw [en3]
  have EN3 := Lib.hid en3
  have HN3' := Lib.hid hn3
  clear hr3 hn3 hb hb1 en3
  go_wp2_with fail
  go_loopw [6] (fun i wr => ∃ j : Nat, j ≤ l1.length ∧ i = .int .i64 j ∧ Below w2.heap.size w2 wr) (fun i _ => l1.length - (intOf i).toNat)
  case atStart => exact ⟨0, Nat.zero_le _, rfl, Below.refl _ _⟩
  case round =>
    obtain ⟨j, hj, rfl, hB⟩ := hrel
    by_cases hlt : j < l1.length
    · have hlt3 : j / 7 < n3 := by have := HN3'.out; omega
      obtain ⟨b1, o1, rfl, hb1, hx1⟩ := HR1.out (by intro h0; rw [h0] at hlt; simp at hlt)
      obtain ⟨b3, o3, rfl, hb3, hx3⟩ := HR3.out (by intro h0; rw [← EN3.out, h0] at hlt3; simp at hlt3)
      have g3 := (hB.cell (p := ⟨b3, o3 + j / 7, none⟩) hb3).trans (hx3 (j / 7) (by rw [EN3.out]; exact hlt3))
      have g1 := (hB.cell (p := ⟨b1, o1 + j, none⟩) (Nat.lt_of_lt_of_le hb1 hb2.size)).trans ((hb2.cell (p := ⟨b1, o1 + j, none⟩) hb1).trans (hx1 j hlt))
      have hd := elem_digit l1 HB.out j hlt
      have hby := getD_byte l1 HB.out j
      have hrg := elem_rng l1 HB.out (j / 7)
      obtain ⟨c, ec⟩ : ∃ c, l1[j]?.getD 0 = c := ⟨_, rfl⟩
      obtain ⟨e, he⟩ : ∃ e, (elems l1)[j / 7]?.getD 0 = e := ⟨_, rfl⟩
      have hee : elem l1 (j / 7) = e := by rw [← he, elems, upto, List.getElem?_map, List.getElem?_range (by rw [← HN3.out, EN3.out]; exact hlt3)]; rfl
      rw [ec] at g1 hd hby
      rw [he] at g3
      rw [hee] at hd hrg
      have ht : (e / 2 ^ (8 * (j % 7)) % 256 != c) = false := by
        have e1 : (2 : Int) ^ (8 * (j % 7)) = 256 ^ (j % 7) := by rw [Int.pow_mul]; rfl
        rw [e1, hd]; simp
      have Hd := Lib.hid hd
      have Hb := Lib.hid hby
      have Hg := Lib.hid hrg
      clear hx1 hx3 ec he hee hd hby hrg
      go_wp2_with fail
      go_quiet (fail)
      go_wp2_with fail
      go_roundw
      case rel => exact ⟨j + 1, by omega, by go_num, below_drewN hB _⟩
      case measure => simp [intOf]; omega
    · go_wp2_with fail
      have hW := hb2.trans (hB.mono hb2.size)
      refine (Of_any _ (l1.take (7 * j0)) _ (((H1.out.below hW).alloc _).take (7 * j0) hj1) (by simp; omega)).mono ?_; rintro e w3 ⟨r1, rfl, hr1, hb3⟩
      have hB3 := (hB.alloc hB.size (.cells #[] 22)).trans (hb3.mono (by have := hB.size; simp; omega))
      have hle1 : (elems (l1.take (7 * j0))).length ≤ 300 := by rw [elems_length]; simp; omega
      have hle2 : (elems (l1.drop (7 * j0))).length ≤ 300 := by rw [elems_length]; simp; omega
      clear hq hq0 hj0
      by_cases hz : c1 - 7 * j0 = 0
      · have hz' : c1 = 7 * j0 := by omega
        have Hz := Lib.hid hz
        clear hz'
        have hown := owns_below (owns_empty wr w2.heap.size 22 hB.size) hb3
        go_wp2_with (at_builtin; refine wpList_append_row rfl _ _ 30 rfl w2.heap.size 22 i0 (.int .u64 0) 8 Try.underlying30 hi hz0 hz1 hz2 rfl _ 0 [] rfl hown .u64 _ _ hr1 rfl (by unfold maxLen; omega) (by omega) hB3.size ?_; intro v4 w4 hown4 hb4)
        have hB4 := hB3.trans hb4
        have hcut := (H1.out.below (hb2.trans (hB4.mono hb2.size))).cut_all (7 * j0) hj1 Hz.out
        refine (Of_any _ (l1.drop (7 * j0)) _ hcut (by simp; omega)).mono ?_; rintro e w5 ⟨r2, rfl, hr2, hb5⟩
        have hown5 := owns_below hown4 hb5
        have hB5 := hB4.trans (hb5.mono hB4.size)
        clear hown hown4 hcut
        go_wp2_with (at_builtin; refine wpList_append_row rfl _ _ 30 rfl w2.heap.size 22 i0 (.int .u64 0) 8 Try.underlying30 hi hz0 hz1 hz2 rfl _ _ _ rfl hown5 .u64 _ _ hr2 rfl (by unfold maxLen; omega) (by omega) hB5.size ?_; intro v6 w6 hown6 hb6)
        have hB6 := hB5.trans hb6
        have hrow6 : Row .u64 w6 v6 (elems l1) := by
          refine Row.of_owns (base := w2.heap.size) (e := 22) ?_ (fun x hx => elem_wf l1 HB.out x hx)
          have hc := elems_cut l1 j0 hj1
          have hcl : (elems l1).length = 0 + (elems (l1.take (7 * j0))).length + (elems (l1.drop (7 * j0))).length := by rw [← hc, List.length_append]; omega
          rw [hcl, ← hc, List.map_append]
          simpa using hown6
        have hr6 := HRow.out.below hB6
        rw [EN3.out] at hr6
        refine (RSame_any _ _ _ _ _ hr6 hrow6).mono ?_; rintro e w7 ⟨rfl, hb7⟩
        go_wp2_with fail
        go_ret
        exact ⟨ret_bool (by simp), (hb2.trans (hB6.mono hb2.size)).trans (hb7.mono (Nat.le_trans hb2.size hB6.size))⟩
      · have Hz := Lib.hid (show 7 * j0 < c1 by omega)
        have hown := owns_below (owns_empty wr w2.heap.size 22 hB.size) hb3
        go_wp2_with (at_builtin; refine wpList_append_row rfl _ _ 30 rfl w2.heap.size 22 i0 (.int .u64 0) 8 Try.underlying30 hi hz0 hz1 hz2 rfl _ 0 [] rfl hown .u64 _ _ hr1 rfl (by unfold maxLen; omega) (by omega) hB3.size ?_; intro v4 w4 hown4 hb4)
        have hB4 := hB3.trans hb4
        have hcut := (H1.out.below (hb2.trans (hB4.mono hb2.size))).cut (7 * j0) hj1 Hz.out
        refine (Of_any _ (l1.drop (7 * j0)) _ hcut (by simp; omega)).mono ?_; rintro e w5 ⟨r2, rfl, hr2, hb5⟩
        have hown5 := owns_below hown4 hb5
        have hB5 := hB4.trans (hb5.mono hB4.size)
        clear hown hown4 hcut
        go_wp2_with (at_builtin; refine wpList_append_row rfl _ _ 30 rfl w2.heap.size 22 i0 (.int .u64 0) 8 Try.underlying30 hi hz0 hz1 hz2 rfl _ _ _ rfl hown5 .u64 _ _ hr2 rfl (by unfold maxLen; omega) (by omega) hB5.size ?_; intro v6 w6 hown6 hb6)
        have hB6 := hB5.trans hb6
        have hrow6 : Row .u64 w6 v6 (elems l1) := by
          refine Row.of_owns (base := w2.heap.size) (e := 22) ?_ (fun x hx => elem_wf l1 HB.out x hx)
          have hc := elems_cut l1 j0 hj1
          have hcl : (elems l1).length = 0 + (elems (l1.take (7 * j0))).length + (elems (l1.drop (7 * j0))).length := by rw [← hc, List.length_append]; omega
          rw [hcl, ← hc, List.map_append]
          simpa using hown6
        have hr6 := HRow.out.below hB6
        rw [EN3.out] at hr6
        refine (RSame_any _ _ _ _ _ hr6 hrow6).mono ?_; rintro e w7 ⟨rfl, hb7⟩
        go_wp2_with fail
        go_ret
        exact ⟨ret_bool (by simp), (hb2.trans (hB6.mono hb2.size)).trans (hb7.mono (Nat.le_trans hb2.size hB6.size))⟩
end Go.Proofs.Ytnichjocllfocaa
