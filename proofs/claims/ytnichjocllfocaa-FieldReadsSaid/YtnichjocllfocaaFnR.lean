/-
  The walk over the law FieldReads.
-/
import Derived.Test.YtnichjocllfocaaFl
namespace Go.Proofs.Ytnichjocllfocaa
open Go.RowKit

set_option maxRecDepth 100000 in
set_option maxHeartbeats 2000000 in
theorem FieldReads_any (v1 : Value) (l1 : List Int) (v2 : Value) (l2 : List Int) (x : Int) (w : World) (h1 : Row .u8 w v1 l1) (h2 : Row .u64 w v2 l2) (hx : (Lit.int .u64 x).wf = true) :
    Calls Try.prog 5 #[v1, v2, .int .u64 x] w fun e w' => e = .returned (.bool true) ∧ Below w.heap.size w w' := by
  have ux := Lib.hid (U64.of_wf hx)
  have H1 := Lib.hid h1
  have H2 := Lib.hid h2
  obtain ⟨a1, c1, rfl, hl1, hc1, _, _⟩ := h1
  obtain ⟨a2, c2, rfl, hl2, hc2, _, _⟩ := h2
  clear hx
  unfold maxLen at hc1 hc2
  by_cases g1 : 2000 < l1.length
  · go_enter Try.func5, Try.ntmps5
    go_wp2_with fail
    refine (live_any _).mono ?_; rintro e w1 ⟨rfl, hb1⟩
    go_wp2_with fail
    go_ret
    exact ⟨rfl, hb1⟩
  · have g1' : l1.length ≤ 2000 := by omega
    by_cases g2 : 100 < l2.length
    · go_enter Try.func5, Try.ntmps5
      go_wp2_with fail
      refine (live_any _).mono ?_; rintro e w1 ⟨rfl, hb1⟩
      go_wp2_with fail
      go_ret
      exact ⟨rfl, hb1⟩
    · have g2' : l2.length ≤ 100 := by omega
      go_enter Try.func5, Try.ntmps5
      go_wp2_with fail
      refine (live_any _).mono ?_; rintro e w1 ⟨rfl, hb1⟩
      go_wp2_with fail
      refine (Of_any _ l1 _ (H1.out.below hb1) (by omega)).mono ?_; rintro e w2 ⟨r, rfl, hr, hb⟩
      have hb2 := hb1.trans (hb.mono hb1.size)
      go_wp2_with fail
      refine (ROf_any _ l1 _ (H1.out.below hb2) (by omega)).mono ?_; rintro e w3 ⟨r', rfl, hr', hb'⟩
      have hr3 := hr.below hb'
      have hb3 := hb2.trans (hb'.mono hb2.size)
      go_wp2_with fail
      refine (RSame_any _ _ _ _ _ hr3 hr').mono ?_; rintro e w4 ⟨rfl, hb''⟩
      have hb4 := hb3.trans (hb''.mono hb3.size)
      rw [decide_eq_true (rfl : elems l1 = elems l1)]
      go_wp2_with fail
      refine (Eval_any _ l2 _ _ (H2.out.below hb4) ux.out).mono ?_; rintro e w5 ⟨rfl, hb'''⟩
      have hb5 := hb4.trans (hb'''.mono hb4.size)
      go_wp2_with fail
      refine (REval_any _ l2 _ _ (H2.out.below hb5) ux.out).mono ?_; rintro e w6 ⟨rfl, rfl⟩
      go_wp2_with fail
      go_ret
      exact ⟨rfl, hb5⟩
end Go.Proofs.Ytnichjocllfocaa
