/-
  The walk over bytes.Equal.
-/
import Derived.Test.YtiijlakilogekaaSb
namespace Go.Proofs.Ytiijlakilogekaa
open Go.RowKit

set_option maxHeartbeats 400000 in
theorem BEqual_any (v1 v2 : Value) (l1 l2 : List Int) (w : World) (h1 : Row .u8 w v1 l1) (h2 : Row .u8 w v2 l2) :
    Calls Try.prog 31 #[v1, v2] w fun e w' => e = .returned (.bool (decide (l1 = l2))) ∧ w = w' := by
  have E := Lib.hid (str_eq h1.all_byte h2.all_byte)
  have c1 := h1.convert
  have c2 := h2.convert
  clear h1 h2
  go_enter Try.func31, Try.ntmps31
  go_wp2
  go_ret
  exact ⟨ret_bool E.out, rfl⟩
theorem BEqual_yes (v1 v2 : Value) (l1 l2 : List Int) (w : World) (h1 : Row .u8 w v1 l1) (h2 : Row .u8 w v2 l2) (he : l1 = l2) :
    Calls Try.prog 31 #[v1, v2] w fun e w' => e = .returned (.bool true) ∧ w = w' :=
  (BEqual_any v1 v2 l1 l2 w h1 h2).mono fun _ _ ⟨a, b⟩ => ⟨by rw [a, decide_eq_true he], b⟩
theorem BEqual_no (v1 v2 : Value) (l1 l2 : List Int) (w : World) (h1 : Row .u8 w v1 l1) (h2 : Row .u8 w v2 l2) (he : ¬ l1 = l2) :
    Calls Try.prog 31 #[v1, v2] w fun e w' => e = .returned (.bool false) ∧ w = w' :=
  (BEqual_any v1 v2 l1 l2 w h1 h2).mono fun _ _ ⟨a, b⟩ => ⟨by rw [a, decide_eq_false he], b⟩
end Go.Proofs.Ytiijlakilogekaa
