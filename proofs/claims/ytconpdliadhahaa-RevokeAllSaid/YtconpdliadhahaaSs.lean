/-
  The walk over sieve.Some.
-/
import Derived.Test.YtconpdliadhahaaSw
import Derived.Test.YtconpdliadhahaaSx
namespace Go.Proofs.Ytconpdliadhahaa
open Go.RowKit

theorem Row.owned64 {w : World} {base : Nat} {v : Value} {l : List Int} (h : w.ownsRow base 3 1 v l.length (l.map (Value.int .i64))) (hl : ∀ x ∈ l, (Lit.int .i64 x).wf = true) : Row .i64 w v l := Row.of_owns h hl
theorem Row.wf {k : IntKind} {w : World} {v : Value} {l : List Int} (h : Row k w v l) : ∀ x ∈ l, (Lit.int k x).wf = true := by
  obtain ⟨_, _, _, _, _, _, hw, _⟩ := h
  exact hw

set_option maxRecDepth 100000 in
set_option maxHeartbeats 1000000 in
theorem DeleteFunc_none (B : Nat) (w : World) :
    Calls Try.prog 37 #[.slice none 0 0, .func (.func 74) #[] #[.pointer (some ⟨B, 0, none⟩)]] w fun e w' => e = .returned (.slice none 0 0) ∧ Below w.heap.size w w' := by
  have hI : Calls Try.prog 55 #[.slice none 0 0, .func (.func 74) #[] #[.pointer (some ⟨B, 0, none⟩)]] w fun e w' => e = .returned (.int .i64 (-1)) ∧ Below w.heap.size w w' := by
    go_enter Try.func55, Try.ntmps55
    go_wp2_with fail
    refine wp_loop_rounds 1 ?_
    rw [rounds_succ]
    go_wp2_with fail
    go_ret
    exact ⟨rfl, Below.refl _ _⟩
  go_enter Try.func37, Try.ntmps37
  go_wp2_with fail
  refine hI.mono ?_; rintro e w1 ⟨rfl, hb1⟩
  go_wp2_with fail
  go_ret
  exact ⟨rfl, hb1⟩

set_option maxRecDepth 100000 in
set_option maxHeartbeats 1000000 in
theorem Some_any (s : Sm.Sv) (vb vl : Value) (l : List Int) (w : World) (h : Row .u8 w vb s.b) (hr : Row .i64 w vl l) (hl : l.length ≤ 1000000) :
    Calls Try.prog 65 #[.agg #[.int .i64 s.bits, .int .i64 s.hashes, .int .i64 s.salt, vb], vl] w fun e w' => ∃ v', e = .returned v' ∧ w'.ownsRow w.heap.size 3 1 v' (l.filter (Sm.has s)).length ((l.filter (Sm.has s)).map (Value.int .i64)) ∧ Below w.heap.size w w' := by
  have hwf := hr.wf
  have HWf := Lib.hid hwf
  obtain ⟨a, c, rfl⟩ := h.shape s.b.length rfl
  obtain ⟨al, cl, rfl⟩ := hr.shape l.length rfl
  obtain ⟨B, hB⟩ : ∃ B, w.heap.size = B := ⟨_, rfl⟩
  obtain ⟨W, hW⟩ : ∃ W, w.alloc (.cells #[.int .i64 s.bits, .int .i64 s.hashes, .int .i64 s.salt, .slice a s.b.length c] 57) = W := ⟨_, rfl⟩
  have hWb : Below w.heap.size w W := by rw [← hW]; exact (Below.refl w.heap.size w).alloc (Nat.le_refl _) _
  have qW : Quad W B 57 (.int .i64 s.bits) (.int .i64 s.hashes) (.int .i64 s.salt) (.slice a s.b.length c) := by rw [← hW, ← hB]; exact Quad.new _ _ _ _ _ _
  have rW := h.below hWb
  have hA := asks_some s _ B W qW rW
  obtain ⟨q, hq⟩ : ∃ q, Sm.has s = q := ⟨_, rfl⟩
  rw [hq] at hA ⊢
  have HBW := Lib.hid hB; have HRl := Lib.hid (hr.below hWb); have HA := Lib.hid hA; have HW := Lib.hid hW
  clear h hr rW hq hA hwf hW
  go_enter Try.func65, Try.ntmps65
  go_wp2_with fail
  rw [HW.out]
  (try rw [hB])
  refine (Clone64_any _ l _ HRl.out (by omega)).mono ?_; rintro e w1 ⟨r, rfl, own, hb1⟩
  have hw1 : Below w.heap.size w w1 := hWb.trans (hb1.mono hWb.size)
  rcases own.2 with ⟨rfl, h0⟩ | ⟨g, cap, cur, rfl, hg, _⟩
  · have hl0 : l = [] := List.length_eq_zero_iff.1 h0
    subst hl0
    clear own
    go_wp2_with fail
    refine (DeleteFunc_none B w1).mono ?_; rintro e w2 ⟨rfl, hb2⟩
    go_wp2_with fail
    go_ret
    exact ⟨_, rfl, World.ownsRow_nil _ _ _ _, hw1.trans (hb2.mono hw1.size)⟩
  · have hWs := hWb.size
    go_wp2_with fail
    refine (DeleteFunc_any W B q g cap l w1 hb1 HA.out HWf.out own hl).mono ?_; rintro e w2 ⟨rfl, own2, hb2⟩
    have HO2 := Lib.hid (owns_low own2 (b := w.heap.size) hWs)
    have hw2 : Below w.heap.size w w2 := hWb.trans (hb2.mono hWs)
    clear own own2 hb2
    go_wp2_with fail
    go_ret
    exact ⟨_, rfl, HO2.out, hw2⟩
end Go.Proofs.Ytconpdliadhahaa
