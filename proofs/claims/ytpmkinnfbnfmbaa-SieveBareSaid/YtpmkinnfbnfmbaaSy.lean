/-
  Walks over sieve.Some, greatsealref09.Few, Same, Ints and the law's few.
-/
import Derived.Test.YtpmkinnfbnfmbaaSw
import Derived.Test.YtpmkinnfbnfmbaaSx
namespace Go.Proofs.Ytpmkinnfbnfmbaa
open Go.RowKit

theorem Row.owned64 {w : World} {base : Nat} {v : Value} {l : List Int} (h : w.ownsRow base 3 1 v l.length (l.map (Value.int .i64))) (hl : ∀ x ∈ l, (Lit.int .i64 x).wf = true) : Row .i64 w v l := Row.of_owns h hl
theorem Row.wf {k : IntKind} {w : World} {v : Value} {l : List Int} (h : Row k w v l) : ∀ x ∈ l, (Lit.int k x).wf = true := by
  obtain ⟨_, _, _, _, _, _, hw, _⟩ := h
  exact hw

set_option maxRecDepth 100000 in
set_option maxHeartbeats 1000000 in
theorem DeleteFunc_none (B : Nat) (w : World) :
    Calls Try.prog 24 #[.slice none 0 0, .func (.func 26) #[] #[.pointer (some ⟨B, 0, none⟩)]] w fun e w' => e = .returned (.slice none 0 0) ∧ Below w.heap.size w w' := by
  have hI : Calls Try.prog 31 #[.slice none 0 0, .func (.func 26) #[] #[.pointer (some ⟨B, 0, none⟩)]] w fun e w' => e = .returned (.int .i64 (-1)) ∧ Below w.heap.size w w' := by
    go_enter Try.func31, Try.ntmps31
    go_wp2_with fail
    refine wp_loop_rounds 1 ?_
    rw [rounds_succ]
    go_wp2_with fail
    go_ret
    exact ⟨rfl, Below.refl _ _⟩
  go_enter Try.func24, Try.ntmps24
  go_wp2_with fail
  refine hI.mono ?_; rintro e w1 ⟨rfl, hb1⟩
  go_wp2_with fail
  go_ret
  exact ⟨rfl, hb1⟩

set_option maxRecDepth 100000 in
set_option maxHeartbeats 1000000 in
theorem Some_any (s : Sm.Sv) (vb vl : Value) (l : List Int) (w : World) (h : Row .u8 w vb s.b) (hr : Row .i64 w vl l) (hl : l.length ≤ 1000000) :
    Calls Try.prog 15 #[.agg #[.int .i64 s.bits, .int .i64 s.hashes, .int .i64 s.salt, vb], vl] w fun e w' => ∃ v', e = .returned v' ∧ w'.ownsRow w.heap.size 3 1 v' (l.filter (Sm.has s)).length ((l.filter (Sm.has s)).map (Value.int .i64)) ∧ Below w.heap.size w w' := by
  have hwf := hr.wf
  have HWf := Lib.hid hwf
  obtain ⟨a, c, rfl⟩ := h.shape s.b.length rfl
  obtain ⟨al, cl, rfl⟩ := hr.shape l.length rfl
  obtain ⟨B, hB⟩ : ∃ B, w.heap.size = B := ⟨_, rfl⟩
  obtain ⟨W, hW⟩ : ∃ W, w.alloc (.cells #[.int .i64 s.bits, .int .i64 s.hashes, .int .i64 s.salt, .slice a s.b.length c] 24) = W := ⟨_, rfl⟩
  have hWb : Below w.heap.size w W := by rw [← hW]; exact (Below.refl w.heap.size w).alloc (Nat.le_refl _) _
  have qW : Quad W B 24 (.int .i64 s.bits) (.int .i64 s.hashes) (.int .i64 s.salt) (.slice a s.b.length c) := by rw [← hW, ← hB]; exact Quad.new _ _ _ _ _ _
  have rW := h.below hWb
  have hA := asks_some s _ B W qW rW
  obtain ⟨q, hq⟩ : ∃ q, Sm.has s = q := ⟨_, rfl⟩
  rw [hq] at hA ⊢
  have HBW := Lib.hid hB; have HRl := Lib.hid (hr.below hWb); have HA := Lib.hid hA; have HW := Lib.hid hW
  clear h hr rW hq hA hwf hW
  go_enter Try.func15, Try.ntmps15
  go_wp2_with fail
  rw [HW.out]
  (try rw [hB])
  refine (Clone64_any _ l _ HRl.out (by omega)).mono ?_; rintro e w1 ⟨r, rfl, own, hb1⟩
  have hw1 : Below w.heap.size w w1 := hWb.trans (hb1.mono hWb.size)
  rcases own.2 with ⟨rfl, h0⟩ | ⟨g, cap, cur, rfl, hg, _⟩
  · have hl0 : l = [] := List.length_eq_zero_iff.1 h0
    subst hl0
    clear own
    go_wp2_with fail
    refine (DeleteFunc_none B w1).mono ?_; rintro e w2 ⟨rfl, hb2⟩
    go_wp2_with fail
    go_ret
    exact ⟨_, rfl, World.ownsRow_nil _ _ _ _, hw1.trans (hb2.mono hw1.size)⟩
  · have hWs := hWb.size
    go_wp2_with fail
    refine (DeleteFunc_any W B q g cap l w1 hb1 HA.out HWf.out own hl).mono ?_; rintro e w2 ⟨rfl, own2, hb2⟩
    have HO2 := Lib.hid (owns_low own2 (b := w.heap.size) hWs)
    have hw2 : Below w.heap.size w w2 := hWb.trans (hb2.mono hWs)
    clear own own2 hb2
    go_wp2_with fail
    go_ret
    exact ⟨_, rfl, HO2.out, hw2⟩

set_option maxHeartbeats 400000 in
theorem SFew_any (s : Sm.Sv) (vb : Value) (w : World) (h : Row .u8 w vb s.b) :
    Calls Try.prog 19 #[.agg #[.int .i64 s.bits, .int .i64 s.hashes, .int .i64 s.salt, vb]] w fun e w' => e = .returned (.bool (decide (s.b.length ≤ 1100))) ∧ Below w.heap.size w w' := by
  obtain ⟨a, c, rfl⟩ := h.shape s.b.length rfl
  go_enter Try.func19, Try.ntmps19
  go_wp2
  go_ret
  exact ⟨ret_bool (by simp only [decide_eq_decide]; omega), (Below.refl _ _).alloc (Nat.le_refl _) _⟩

set_option maxHeartbeats 400000 in
theorem few_any (s : Sm.Sv) (vb vl : Value) (l : List Int) (w : World) (h : Row .u8 w vb s.b) (hr : Row .i64 w vl l) :
    Calls Try.prog 10 #[.agg #[.int .i64 s.bits, .int .i64 s.hashes, .int .i64 s.salt, vb], vl] w fun e w' => e = .returned (.bool (decide (s.b.length ≤ 1100 ∧ l.length ≤ 60))) ∧ Below w.heap.size w w' := by
  obtain ⟨a, c, rfl⟩ := h.shape s.b.length rfl
  obtain ⟨al, cl, rfl⟩ := hr.shape l.length rfl
  have hF := SFew_any s _ _ (h.alloc (.cells #[.int .i64 s.bits, .int .i64 s.hashes, .int .i64 s.salt, .slice a s.b.length c] 24))
  clear h hr
  by_cases h1 : s.b.length ≤ 1100
  · rw [decide_eq_true h1] at hF
    have H1 := Lib.hid h1
    clear h1
    go_enter Try.func10, Try.ntmps10
    go_wp2_with fail
    refine hF.mono ?_; rintro e w' ⟨rfl, hb⟩
    go_wp2_with fail
    go_ret
    have h1 := H1.out
    exact ⟨ret_bool (by first | (rw [decide_eq_decide]; omega) | (rw [Bool.eq_iff_iff]; simp; omega)), ((Below.refl _ w).alloc (Nat.le_refl _) _).trans (hb.mono (by simp))⟩
  · rw [decide_eq_false h1] at hF
    have H1 := Lib.hid h1
    clear h1
    go_enter Try.func10, Try.ntmps10
    go_wp2_with fail
    refine hF.mono ?_; rintro e w' ⟨rfl, hb⟩
    go_wp2_with fail
    go_ret
    have h1 := H1.out
    exact ⟨ret_bool (decide_eq_false (fun h => h1 h.1)).symm, ((Below.refl _ w).alloc (Nat.le_refl _) _).trans (hb.mono (by simp))⟩

set_option maxRecDepth 100000 in
set_option maxHeartbeats 1000000 in
theorem SSame_yes (x y z : Int) (v u : Value) (b : List Int) (w : World) (h1 : Row .u8 w v b) (h2 : Row .u8 w u b) :
    Calls Try.prog 13 #[.agg #[.int .i64 x, .int .i64 y, .int .i64 z, v], .agg #[.int .i64 x, .int .i64 y, .int .i64 z, u]] w fun e w' => e = .returned (.bool true) ∧ Below w.heap.size w w' := by
  have k1 := ((h1.alloc (.cells #[.int .i64 x, .int .i64 y, .int .i64 z, v] 24)).alloc (.cells #[.int .i64 x, .int .i64 y, .int .i64 z, u] 24)).convert
  have k2 := ((h2.alloc (.cells #[.int .i64 x, .int .i64 y, .int .i64 z, v] 24)).alloc (.cells #[.int .i64 x, .int .i64 y, .int .i64 z, u] 24)).convert
  obtain ⟨a1, c1, rfl, -⟩ := h1
  obtain ⟨a2, c2, rfl, -⟩ := h2
  obtain ⟨t, ht⟩ : ∃ t, strOfNums b = t := ⟨_, rfl⟩
  rw [ht] at k1 k2
  clear ht
  go_enter Try.func13, Try.ntmps13
  go_wp2
  go_ret
  exact ⟨ret_bool (by simp), ((Below.refl _ _).alloc (Nat.le_refl _) _).alloc (by simp) _⟩

set_option maxRecDepth 100000 in
set_option maxHeartbeats 1000000 in
theorem Ints_yes (v u : Value) (l : List Int) (w : World) (h1 : Row .i64 w v l) (h2 : Row .i64 w u l) (hn : l.length ≤ 1000000) :
    Calls Try.prog 16 #[v, u] w fun e w' => e = .returned (.bool true) ∧ Below w.heap.size w w' := by
  obtain ⟨a1, c1, rfl, hl1, hm1, -, -, hr1⟩ := h1
  obtain ⟨a2, c2, rfl, hl2, hm2, -, -, hr2⟩ := h2
  have HR1 := Lib.hid hr1; have HR2 := Lib.hid hr2
  clear hr1 hr2
  unfold maxLen at hm1 hm2
  go_enter Try.func16, Try.ntmps16
  go_wp2_with fail
  go_loopw [5] (fun i wr => ∃ k : Nat, k ≤ l.length ∧ i = .int .i64 k ∧ Below w.heap.size w wr) (fun i _ => l.length - (intOf i).toNat)
  case atStart => exact ⟨0, Nat.zero_le _, rfl, Below.refl _ _⟩
  case round =>
    obtain ⟨k, hk, rfl, hB⟩ := hrel
    have e1 : IntKind.i64.wrap ((k : Int) + 1) = (k : Int) + 1 := IntWalk.i64_in _ (by omega)
    by_cases hlt : k < l.length
    · obtain ⟨b1, o1, rfl, hb1, hc1⟩ := HR1.out (by rintro rfl; simp at hlt)
      obtain ⟨b2, o2, rfl, hb2, hc2⟩ := HR2.out (by rintro rfl; simp at hlt)
      have g1 := (hB.cell (p := ⟨b1, o1 + k, none⟩) hb1).trans (hc1 k hlt)
      have g2 := (hB.cell (p := ⟨b2, o2 + k, none⟩) hb2).trans (hc2 k hlt)
      obtain ⟨x, hx⟩ : ∃ x, l[k]?.getD 0 = x := ⟨_, rfl⟩
      rw [hx] at g1 g2
      have k1 : (k : Int) < (l.length : Int) := by omega
      have k0 : (0 : Int) ≤ (k : Int) := by omega
      clear hc1 hc2 hx
      go_wp2_with fail
      go_region
      all_goals
        go_wp2_with fail
        go_roundw
        case rel => exact ⟨k + 1, by omega, by go_num, hB.drew⟩
        case measure => simp [intOf]; omega
    · obtain rfl : k = l.length := by omega
      go_wp2_with fail
      go_ret
      exact ⟨ret_bool (by simp), hB⟩
end Go.Proofs.Ytpmkinnfbnfmbaa
