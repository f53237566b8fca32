/-
  The walk over the law FieldPolys.
-/
import Derived.Test.YtnichjocllfocaaFl
import Derived.Test.YtnichjocllfocaaAp
import Derived.StillTailTactics
import Derived.Deep.RegionWith
namespace Go.Proofs.Ytnichjocllfocaa
open Go.RowKit

/-- Part i of a polynomial. -/
def part (p : List Int) (i : Nat) : Int := p[i]?.getD 0
def two (p q : List Int) (i : Nat) : Int := Fm.add (Fm.add 0 (part p i)) (part q i)
theorem part_succ (p : List Int) (i : Nat) : part p (i + 1) = part p.tail i := by cases p <;> simp [part]
theorem eval_head (p : List Int) (x : Int) : Fm.eval p x = Fm.add (Fm.mul (Fm.eval p.tail x) x) (part p 0) := by
  cases p with
  | nil => unfold part Fm.add Fm.mul; simp [Fm.eval_nil]
  | cons c t => rfl
theorem upto_head {α : Type} (f : Nat → α) (n : Nat) : upto f (n + 1) = f 0 :: upto (fun i => f (i + 1)) n := by
  simp [upto, List.range_succ_eq_map]
theorem eval_two (n : Nat) (p q : List Int) (x : Int) (hp : p.length ≤ n) (hq : q.length ≤ n) : Fm.eval (upto (two p q) n) x = Fm.add (Fm.eval p x) (Fm.eval q x) := by
  induction n generalizing p q with
  | zero =>
    have h1 : p = [] := List.length_eq_zero_iff.1 (by omega)
    have h2 : q = [] := List.length_eq_zero_iff.1 (by omega)
    subst h1 h2; rfl
  | succ n ih =>
    have e : (fun i => two p q (i + 1)) = two p.tail q.tail := by funext i; unfold two; rw [part_succ, part_succ]
    rw [upto_head, Fm.eval_cons, e, ih p.tail q.tail (by simp; omega) (by simp; omega), eval_head p, eval_head q]
    unfold two
    generalize Fm.eval p.tail x = a
    generalize Fm.eval q.tail x = b
    generalize part p 0 = c
    generalize part q 0 = d
    rw [Fm.mul_comm (Fm.add a b), Fm.mul_add, Fm.mul_comm x a, Fm.mul_comm x b]
    generalize Fm.mul a x = A
    generalize Fm.mul b x = B
    have e0 : Fm.add (Fm.add 0 c) d = Fm.add c d := by
      show Fm.add ((0 + c) % Fm.P) d = _; rw [Int.zero_add, Fm.add_emod_l]
    rw [e0]
    show Fm.add ((A + B) % Fm.P) ((c + d) % Fm.P) = Fm.add ((A + c) % Fm.P) ((B + d) % Fm.P)
    rw [Fm.add_emod_l, Fm.add_emod_r, Fm.add_emod_l, Fm.add_emod_r]
    unfold Fm.add; congr 1; omega

/-- The sum of all. -/
def all (l : List Int) : Int := l.foldl Fm.add 0
theorem all_rng (l : List Int) : 0 ≤ all l ∧ all l < Fm.P := by
  have key : ∀ (l : List Int) (o : Int), 0 ≤ o ∧ o < Fm.P → 0 ≤ l.foldl Fm.add o ∧ l.foldl Fm.add o < Fm.P := by
    intro l
    induction l with
    | nil => intro o h; exact h
    | cons p t ih => intro o _; exact ih _ (Fm.add_rng _ _)
  exact key l 0 ⟨by omega, Fm.P_pos⟩
theorem all_eval (l : List Int) : all l = Fm.eval l 1 := by
  have key : ∀ (l : List Int) (o : Int), 0 ≤ o ∧ o < Fm.P → l.foldl Fm.add o = Fm.add o (Fm.eval l 1) := by
    intro l
    induction l with
    | nil => intro o h; show o = Fm.add o 0; unfold Fm.add; rw [Int.add_zero, Fm.mod_small _ h.1 h.2]
    | cons c t ih =>
      intro o h
      show t.foldl Fm.add (Fm.add o c) = _
      have hr := Fm.eval_rng t 1
      rw [ih _ (Fm.add_rng _ _), Fm.eval_cons]
      have e : Fm.mul (Fm.eval t 1) 1 = Fm.eval t 1 := by unfold Fm.mul; rw [Int.mul_one]; exact Fm.mod_small _ hr.1 hr.2
      rw [e, Fm.add_assoc, Fm.add_comm c]
  have := key l 0 ⟨by omega, Fm.P_pos⟩
  have hr := Fm.eval_rng l 1
  unfold all; rw [this]; unfold Fm.add; rw [Int.zero_add]; exact Fm.mod_small _ hr.1 hr.2
theorem all_succ (l : List Int) (k : Nat) (hk : k < l.length) : all (l.take (k + 1)) = Fm.add (all (l.take k)) (l[k]?.getD 0) := by
  rw [List.take_succ_eq_append_getElem hk, List.getElem?_eq_getElem hk]; unfold all; rw [List.foldl_append]; rfl

/-- After k rounds: the sums of the first k parts, and 0s. -/
def sumTo (p q : List Int) (n k : Nat) : List Int := upto (two p q) k ++ List.replicate (n - k) 0
theorem sumTo_length (p q : List Int) (n k : Nat) (h : k ≤ n) : (sumTo p q n k).length = n := by simp [sumTo, upto]; omega
theorem sumTo_set (p q : List Int) (n k : Nat) (h : k < n) (y z : Int) (hz : z = two p q k) : ((sumTo p q n k).set k y).set k z = sumTo p q n (k + 1) := by
  rw [List.set_set, hz]
  unfold sumTo
  rw [upto_succ, List.append_assoc]
  have e : (upto (two p q) k).length = k := upto_length _ _
  rw [List.set_append_right _ _ (by omega), e, Nat.sub_self, show n - k = (n - (k + 1)) + 1 by omega, List.replicate_succ]
  rfl
theorem sumTo_at (p q : List Int) (n k : Nat) (h : k < n) : (sumTo p q n k)[k]? = some 0 := by
  unfold sumTo
  rw [List.getElem?_append_right (by rw [upto_length]; omega), upto_length, Nat.sub_self, List.getElem?_replicate, if_pos (by omega)]

theorem sumTo_set1 (p q : List Int) (n k : Nat) (h : k < n) (z : Int) (hz : z = two p q k) : (sumTo p q n k).set k z = sumTo p q n (k + 1) := by
  have := sumTo_set p q n k h z z hz
  rwa [List.set_set] at this
theorem two_left (p q : List Int) (k : Nat) (h : q.length ≤ k) : two p q k = Fm.add 0 (part p k) := by
  have e : part q k = 0 := by unfold part; rw [List.getElem?_eq_none h]; rfl
  unfold two; rw [e]
  have hr := Fm.add_rng 0 (part p k)
  generalize Fm.add 0 (part p k) = a at hr
  unfold Fm.add; rw [Int.add_zero, Fm.mod_small _ hr.1 hr.2]
theorem two_right (p q : List Int) (k : Nat) (h : p.length ≤ k) : two p q k = Fm.add 0 (part q k) := by
  have e : part p k = 0 := by unfold part; rw [List.getElem?_eq_none h]; rfl
  unfold two; rw [e]; rfl

set_option maxRecDepth 100000 in
set_option maxHeartbeats 2000000 in
theorem FieldPolys_any (v1 : Value) (l1 : List Int) (v2 : Value) (l2 : List Int) (c x : Int) (w : World) (h1 : Row .u64 w v1 l1) (h2 : Row .u64 w v2 l2) (wc : (Lit.int .u64 c).wf = true) (wx : (Lit.int .u64 x).wf = true) :
    Calls Try.prog 11 #[v1, v2, .int .u64 c, .int .u64 x] w fun e w' => e = .returned (.bool true) ∧ Below w.heap.size w w' := by
  have uc := Lib.hid (U64.of_wf wc)
  have ux := Lib.hid (U64.of_wf wx)
  have H1 := Lib.hid h1
  have H2 := Lib.hid h2
  have RU1 := Lib.hid (row_U64 h1)
  have RU2 := Lib.hid (row_U64 h2)
  obtain ⟨a1, c1, rfl, hl1, hc1, -, hw1, hr1⟩ := h1
  obtain ⟨a2, c2, rfl, hl2, hc2, -, hw2, hr2⟩ := h2
  have HR1 := Lib.hid hr1
  have HR2 := Lib.hid hr2
  clear wc wx hw1 hw2 hr1 hr2
  unfold maxLen at hc1 hc2
  by_cases g1 : 60 < l1.length
  · go_enter Try.func11, Try.ntmps11
    go_wp2_with fail
    refine (live_any _).mono ?_; rintro e w1 ⟨rfl, hb1⟩
    go_wp2_with fail
    go_ret
    exact ⟨rfl, hb1⟩
  have g1' : l1.length ≤ 60 := by omega
  by_cases g2 : 60 < l2.length
  · go_enter Try.func11, Try.ntmps11
    go_wp2_with fail
    refine (live_any _).mono ?_; rintro e w1 ⟨rfl, hb1⟩
    go_wp2_with fail
    go_ret
    exact ⟨rfl, hb1⟩
  have g2' : l2.length ≤ 60 := by omega
  obtain ⟨i0, hi, hz0, hz1, hz2⟩ := info_parts info_u64
  obtain ⟨n, hn⟩ : ∃ n, max l1.length l2.length = n := ⟨_, rfl⟩
  have hmx : max (l1.length : Int) (l2.length : Int) = (n : Int) := by omega
  have n1 : l1.length ≤ n := by omega
  have n2 : l2.length ≤ n := by omega
  have n60 : n ≤ 60 := by omega
  have HN := Lib.hid (show l1.length = n ∨ l2.length = n by omega)
  clear hn
  go_enter Try.func11, Try.ntmps11
  go_wp2_with fail
  refine (live_any _).mono ?_; rintro e w2 ⟨rfl, hb2⟩
  go_wp2_with (refine wpList_make_full _ rfl _ _ 30 rfl w.heap.size 22 i0 (.int .u64 0) 1 Try.underlying30 hi hz0 hz1 .i64 .i64 n n n rfl rfl rfl rfl (by rw [hz2]; omega) (by unfold maxLen; omega) hb2.size ?_; intro w3 hown hgrow)
  have hown1 : w3.ownsRow w.heap.size 22 1 (.slice (some ⟨w2.heap.size, 0, none⟩) n n) n ((sumTo l1 l2 n 0).map (Value.int .u64)) := by
    have e : (madeCells (Value.int .u64 0).cells (n * 1)).toList = (sumTo l1 l2 n 0).map (Value.int .u64) := by
      rw [Nat.mul_one]; show (madeCells #[Value.int .u64 0] n).toList = _
      rw [toList_madeCells_one]; simp [sumTo, upto]
    rw [← e]; exact hown
  have hb3 : Below w.heap.size w w3 := hb2.grown hgrow hb2.size (fun k e => by cases e)
  have hge := hb2.size
  clear hown hgrow
  go_loopw [10, 11] (fun o i wr => ∃ k : Nat, k ≤ n ∧ i = .int .i64 k ∧ o = .int .u64 (all (l1.take k)) ∧ wr.ownsRow w.heap.size 22 1 (.slice (some ⟨w2.heap.size, 0, none⟩) n n) n ((sumTo l1 l2 n k).map (Value.int .u64)) ∧ Below w.heap.size w wr) (fun _ i _ => n - (intOf i).toNat)
  case atStart => exact ⟨0, Nat.zero_le _, rfl, rfl, hown1, hb3⟩
  case round =>
    obtain ⟨k, hk, rfl, rfl, hown, hB⟩ := hrel
    by_cases hlt : k < n
    · have hfz := hown.frozenAt k
      have hcl := hown.cellAt k (by omega)
      rw [List.getElem?_map, sumTo_at l1 l2 n k hlt] at hcl
      simp only [Option.map_some] at hcl
      have ho := all_rng (l1.take k)
      obtain ⟨o, eo⟩ : ∃ o, all (l1.take k) = o := ⟨_, rfl⟩
      rw [eo] at ho
      rw [eo]
      have HO := Lib.hid ho
      have EO := Lib.hid eo
      clear ho eo
      by_cases k1 : k < l1.length
      · obtain ⟨b1, o1, rfl, hb1, hx1⟩ := HR1.out (by intro h0; rw [h0] at k1; simp at k1)
        have g3 := (hB.cell (p := ⟨b1, o1 + k, none⟩) hb1).trans (hx1 k k1)
        have up := RU1.out k
        obtain ⟨p, ep⟩ : ∃ p, l1[k]?.getD 0 = p := ⟨_, rfl⟩
        rw [ep] at g3 up
        have UP := Lib.hid up
        have EP := Lib.hid ep
        have HA := Lib.hid (show all (l1.take (k + 1)) = Fm.add o p by rw [all_succ l1 k k1, EO.out, ep])
        clear hx1 ep up
        by_cases k2 : k < l2.length
        · obtain ⟨b2, o2, rfl, hb2', hx2⟩ := HR2.out (by intro h0; rw [h0] at k2; simp at k2)
          have g4 := (hB.cell (p := ⟨b2, o2 + k, none⟩) hb2').trans (hx2 k k2)
          have uq := RU2.out k
          obtain ⟨q, eq⟩ : ∃ q, l2[k]?.getD 0 = q := ⟨_, rfl⟩
          rw [eq] at g4 uq
          have UQ := Lib.hid uq
          have EQ := Lib.hid eq
          clear hx2 eq uq
          go_wp2_with fail
          go_region_with (go_at_call 13; refine (Add_any 0 p _ ⟨by omega, by omega⟩ UP.out).mono ?_; rintro e w' ⟨rfl, rfl⟩)
          all_goals
            go_wp2_with fail
            obtain ⟨W1, hW1⟩ : ∃ W1, (wr.setCell ⟨w2.heap.size, k, none⟩ (.int .u64 (Fm.add 0 p))).drew = W1 := ⟨_, rfl⟩
            rw [hW1]
            have hownW1 : W1.ownsRow w.heap.size 22 1 (.slice (some ⟨w2.heap.size, 0, none⟩) n n) n (((sumTo l1 l2 n k).set k (Fm.add 0 p)).map (Value.int .u64)) := by
              rw [← hW1, List.map_set]; exact (hown.stored k _).1.drew
            have hBW1 : Below w.heap.size w W1 := by rw [← hW1]; exact (hB.setCell (p := ⟨w2.heap.size, k, none⟩) hge _).drew
            clear hW1
            have g3' := (hBW1.cell (p := ⟨b1, o1 + k, none⟩) hb1).trans ((hB.cell (p := ⟨b1, o1 + k, none⟩) hb1).symm.trans g3)
            have g4' := (hBW1.cell (p := ⟨b2, o2 + k, none⟩) hb2').trans ((hB.cell (p := ⟨b2, o2 + k, none⟩) hb2').symm.trans g4)
            have hfz1 := hownW1.frozenAt k
            have hcl1 := hownW1.cellAt k (by omega)
            rw [List.getElem?_map, List.getElem?_set_self (by rw [sumTo_length _ _ _ _ (by omega)]; exact hlt)] at hcl1
            simp only [Option.map_some] at hcl1
            have ua := Lib.hid (U64.of_rng (Fm.add_rng 0 p))
            refine (Add_any o p _ (U64.of_rng HO.out) UP.out).mono ?_; rintro e w' ⟨rfl, rfl⟩
            go_wp2_with fail
            go_region_with (go_at_call 13; refine (Add_any (Fm.add 0 p) q _ ua.out UQ.out).mono ?_; rintro e w' ⟨rfl, rfl⟩)
            all_goals
              go_wp2_with fail
              have e2 := sumTo_set l1 l2 n k hlt (Fm.add 0 p) (Fm.add (Fm.add 0 p) q) (by unfold two part; rw [EP.out, EQ.out])
              have hown2 := (hownW1.stored k (.int .u64 (Fm.add (Fm.add 0 p) q))).1.drew
              rw [← List.map_set, e2] at hown2
              have hB2 := (hBW1.setCell (p := ⟨w2.heap.size, k, none⟩) hge (.int .u64 (Fm.add (Fm.add 0 p) q))).drew
              have E2 := Lib.hid e2
              clear e2
              go_roundw
              case rel => exact ⟨k + 1, by omega, by go_num, by rw [HA.out], hown2, hB2⟩
              case measure => simp [intOf]; omega
        · go_wp2_with fail
          go_region_with (go_at_call 13; refine (Add_any 0 p _ ⟨by omega, by omega⟩ UP.out).mono ?_; rintro e w' ⟨rfl, rfl⟩)
          all_goals
            go_wp2_with fail
            obtain ⟨W1, hW1⟩ : ∃ W1, (wr.setCell ⟨w2.heap.size, k, none⟩ (.int .u64 (Fm.add 0 p))).drew = W1 := ⟨_, rfl⟩
            rw [hW1]
            have hownW1 : W1.ownsRow w.heap.size 22 1 (.slice (some ⟨w2.heap.size, 0, none⟩) n n) n (((sumTo l1 l2 n k).set k (Fm.add 0 p)).map (Value.int .u64)) := by
              rw [← hW1, List.map_set]; exact (hown.stored k _).1.drew
            have hBW1 : Below w.heap.size w W1 := by rw [← hW1]; exact (hB.setCell (p := ⟨w2.heap.size, k, none⟩) hge _).drew
            clear hW1
            have g3' := (hBW1.cell (p := ⟨b1, o1 + k, none⟩) hb1).trans ((hB.cell (p := ⟨b1, o1 + k, none⟩) hb1).symm.trans g3)
            rw [sumTo_set1 l1 l2 n k hlt (Fm.add 0 p) (by rw [two_left l1 l2 k (by omega)]; unfold part; rw [EP.out])] at hownW1
            refine (Add_any o p _ (U64.of_rng HO.out) UP.out).mono ?_; rintro e w' ⟨rfl, rfl⟩
            go_wp2_with fail
            go_roundw
            case rel => exact ⟨k + 1, by omega, by go_num, by rw [HA.out], hownW1, hBW1⟩
            case measure => simp [intOf]; omega
      · have k2 : k < l2.length := by have := HN.out; omega
        obtain ⟨b2, o2, rfl, hb2', hx2⟩ := HR2.out (by intro h0; rw [h0] at k2; simp at k2)
        have g4 := (hB.cell (p := ⟨b2, o2 + k, none⟩) hb2').trans (hx2 k k2)
        have uq := RU2.out k
        obtain ⟨q, eq⟩ : ∃ q, l2[k]?.getD 0 = q := ⟨_, rfl⟩
        rw [eq] at g4 uq
        have UQ := Lib.hid uq
        have EQ := Lib.hid eq
        clear hx2 eq uq
        go_wp2_with fail
        go_region_with (go_at_call 13; refine (Add_any 0 q _ ⟨by omega, by omega⟩ UQ.out).mono ?_; rintro e w' ⟨rfl, rfl⟩)
        all_goals
          go_wp2_with fail
          have hown2 := (hown.stored k (.int .u64 (Fm.add 0 q))).1.drew
          rw [← List.map_set, sumTo_set1 l1 l2 n k hlt (Fm.add 0 q) (by rw [two_right l1 l2 k (by omega)]; unfold part; rw [EQ.out])] at hown2
          have hB2 := (hB.setCell (p := ⟨w2.heap.size, k, none⟩) hge (.int .u64 (Fm.add 0 q))).drew
          have HA := Lib.hid (show all (l1.take (k + 1)) = o by rw [List.take_of_length_le (by omega), ← EO.out, List.take_of_length_le (by omega)])
          go_roundw
          case rel => exact ⟨k + 1, by omega, by go_num, by rw [HA.out], hown2, hB2⟩
          case measure => simp [intOf]; omega
    · obtain rfl : k = n := by omega
      have hs : sumTo l1 l2 k k = upto (two l1 l2) k := by simp [sumTo]
      rw [hs] at hown
      have hall : all (l1.take k) = Fm.eval l1 1 := by rw [List.take_of_length_le n1, all_eval]
      rw [hall]
      have hrow : Row .u64 wr (.slice (some ⟨w2.heap.size, 0, none⟩) k k) (upto (two l1 l2) k) := by
        have hl : (upto (two l1 l2) k).length = k := upto_length _ _
        refine Row.of_owns (base := w.heap.size) (e := 22) (by rw [hl]; exact hown) ?_
        intro z hz
        obtain ⟨j, _, rfl⟩ := List.mem_map.1 hz
        have := Fm.add_rng (Fm.add 0 (part l1 j)) (part l2 j)
        unfold two
        unfold Fm.P at this
        simp [Lit.wf, IntKind.min, IntKind.max, IntKind.bits, IntKind.signed]; omega
      have HRow := Lib.hid hrow
      clear hown hs hall hrow
      have hone : (wr.alloc (.cells #[.int .u64 c] 22)).ownsRow wr.heap.size 22 1 (.slice (some ⟨wr.heap.size, 0, none⟩) 1 1) 1 [.int .u64 c] :=
        ⟨rfl, .inr ⟨wr.heap.size, 1, #[.int .u64 c], rfl, Nat.le_refl _, by show (wr.heap.push _)[wr.heap.size]? = _; simp, Nat.le_refl _, by decide, rfl, rfl⟩⟩
      have hr1 := (H1.out.below hB).alloc (.cells #[.int .u64 c] 22)
      go_wp2_with (at_builtin; refine wpList_append_row rfl _ _ 30 rfl wr.heap.size 22 i0 (.int .u64 0) 8 Try.underlying30 hi hz0 hz1 hz2 rfl _ 1 _ rfl hone .u64 _ _ hr1 rfl (by unfold maxLen; omega) (by omega) (by simp) ?_; intro v4 w4 hown4 hb4)
      have hbw : Below wr.heap.size wr w4 := ((Below.refl _ wr).alloc (Nat.le_refl _) _).trans hb4
      have hB4 := hB.trans (hbw.mono hB.size)
      have hrow4 : Row .u64 w4 v4 (c :: l1) := by
        refine Row.of_owns (base := wr.heap.size) (e := 22) (by rw [List.length_cons, Nat.add_comm]; exact hown4) ?_
        intro z hz
        rcases List.mem_cons.1 hz with rfl | hz
        · have := uc.out; unfold U64 at this; simp [Lit.wf, IntKind.min, IntKind.max, IntKind.bits, IntKind.signed]; omega
        · obtain ⟨_, _, _, _, _, _, hw, _⟩ := H1.out
          exact hw z hz
      have HR4 := Lib.hid hrow4
      have HRow4 := Lib.hid (HRow.out.below hbw)
      obtain ⟨y, hy⟩ : ∃ y, c.tmod 2305843009213693951 = y := ⟨_, rfl⟩
      have hy' := Lib.hid (show c % Fm.P = y by rw [← hy]; exact (Int.tmod_eq_emod_of_nonneg uc.out.1).symm)
      have q1 := Lib.hid (eval_two k l1 l2 x n1 n2)
      have q2 := Lib.hid (show Fm.eval (c :: l1) x = Fm.add c (Fm.mul x (Fm.eval l1 x)) by rw [Fm.eval_cons, Fm.add_comm, Fm.mul_comm])
      have q3 := Lib.hid (show Fm.eval (c :: l1) 0 = y by rw [Fm.eval_cons, Fm.mul_zero, ← hy'.out]; unfold Fm.add; rw [Int.zero_add])
      clear hone hr1 hown4 hrow4 hb4
      have hE0 := Below.refl w4.heap.size w4
      go_wp2_with fail
      refine (Eval_any _ (upto (two l1 l2) k) x _ (HRow4.out.below hE0) ux.out).mono ?_; rintro e x1 ⟨rfl, hb11⟩
      rw [q1.out]
      have hE1 := hE0.trans (hb11.mono hE0.size)
      go_wp2_with fail
      refine (Eval_any _ l1 x _ ((H1.out.below hB4).below hE1) ux.out).mono ?_; rintro e x2 ⟨rfl, hb12⟩
      have hE2 := hE1.trans (hb12.mono hE1.size)
      go_wp2_with fail
      refine (Eval_any _ l2 x _ ((H2.out.below hB4).below hE2) ux.out).mono ?_; rintro e x3 ⟨rfl, hb13⟩
      have hE3 := hE2.trans (hb13.mono hE2.size)
      go_wp2_with fail
      refine (Add_any (Fm.eval l1 x) (Fm.eval l2 x) _ (U64.of_rng (Fm.eval_rng _ _)) (U64.of_rng (Fm.eval_rng _ _))).mono ?_; rintro e w' ⟨rfl, rfl⟩
      go_wp2_with fail
      refine (Eval_any _ (c :: l1) x _ (HR4.out.below hE3) ux.out).mono ?_; rintro e x4 ⟨rfl, hb14⟩
      rw [q2.out]
      have hE4 := hE3.trans (hb14.mono hE3.size)
      go_wp2_with fail
      refine (Eval_any _ l1 x _ ((H1.out.below hB4).below hE4) ux.out).mono ?_; rintro e x5 ⟨rfl, hb15⟩
      have hE5 := hE4.trans (hb15.mono hE4.size)
      go_wp2_with fail
      refine (Mul_any x (Fm.eval l1 x) _ ux.out (U64.of_rng (Fm.eval_rng _ _))).mono ?_; rintro e w' ⟨rfl, rfl⟩
      go_wp2_with fail
      refine (Add_any c (Fm.mul x (Fm.eval l1 x)) _ uc.out (U64.of_rng (Fm.mul_rng _ _))).mono ?_; rintro e w' ⟨rfl, rfl⟩
      go_wp2_with fail
      refine (Eval_any _ (c :: l1) 0 _ (HR4.out.below hE5) ⟨by omega, by omega⟩).mono ?_; rintro e x6 ⟨rfl, hb16⟩
      rw [q3.out]
      have hE6 := hE5.trans (hb16.mono hE5.size)
      go_wp2_with fail
      refine (Eval_any _ l1 1 _ ((H1.out.below hB4).below hE6) ⟨by omega, by omega⟩).mono ?_; rintro e x7 ⟨rfl, hb17⟩
      have hE7 := hE6.trans (hb17.mono hE6.size)
      go_wp2_with fail
      refine (Eval_any _ [] x _ ((Row.nil .u64 w4).below hE7) ux.out).mono ?_; rintro e x8 ⟨rfl, hb18⟩
      rw [Fm.eval_nil]
      have hE8 := hE7.trans (hb18.mono hE7.size)
      go_wp2_with fail
      go_ret
      exact ⟨rfl, hB4.trans (hE8.mono hB4.size)⟩
end Go.Proofs.Ytnichjocllfocaa
