/-
  The walk over bytes.Clone.
-/
import Derived.Test.YtiijlakilogekaaSb
namespace Go.Proofs.Ytiijlakilogekaa
open Go.RowKit

set_option maxHeartbeats 400000 in
theorem BClone_any (v : Value) (l : List Int) (w : World) (h : Row .u8 w v l) (hlen : l.length ≤ 10000000) :
    Calls Try.prog 17 #[v] w fun e w' => ∃ r, e = .returned r ∧ w'.ownsRow w.heap.size 5 1 r l.length (l.map (Value.int .u8)) ∧ Below w.heap.size w w' := by
  obtain ⟨i0, hi, hz0, hz1, hz2⟩ := info_parts info_u8
  have H := Lib.hid h
  obtain ⟨a, cap, rfl, hl, hc, h0, -, hr⟩ := h
  have hq := Lib.run_eql_slice_nil (P := Try.prog) (t := 22) (e := 5)
  cases a with
  | none =>
    obtain rfl : cap = 0 := h0 rfl
    obtain rfl : l = [] := List.length_eq_zero_iff.1 (by omega)
    clear h0 hr
    go_enter Try.func17, Try.ntmps17
    go_wp2
    go_ret
    exact ⟨_, rfl, World.ownsRow_nil _ _ _ _, Below.refl _ _⟩
  | some ad =>
    clear h0 hr
    go_enter Try.func17, Try.ntmps17
    go_wp2_with (at_builtin; refine wpList_append_row rfl _ _ 22 rfl w.heap.size 5 i0 (.int .u8 0) 1 Try.underlying22 hi hz0 hz1 hz2 rfl _ 0 [] rfl (owns_empty w w.heap.size 5 (Nat.le_refl _)) .u8 _ _ (H.out.alloc _) rfl (by unfold maxLen; omega) (by omega) (by simp) ?_; intro v4 w4 hown4 hb4)
    go_ret
    refine ⟨_, rfl, by simpa using hown4, ((Below.refl _ w).alloc (Nat.le_refl _) _).trans hb4⟩
end Go.Proofs.Ytiijlakilogekaa
