/-
  The walk over hash.Bytes.
-/
import Derived.Test.YtiijlakilogekaaHp
namespace Go.Proofs.Ytiijlakilogekaa
open Go.RowKit

set_option maxRecDepth 100000 in
set_option maxHeartbeats 2000000 in
theorem Bytes_any (a b : Int) (w : World) :
    Calls Try.prog 26 #[.agg #[.int .u64 a, .int .u64 b]] w fun e w' => ∃ v', e = .returned v' ∧ w'.ownsRow w.heap.size 5 1 v' (Hm.be 8 a ++ Hm.be 8 b).length ((Hm.be 8 a ++ Hm.be 8 b).map (Value.int .u8)) ∧ Below w.heap.size w w' := by
  have i0 : ∀ w, (Instr.index 52 (.agg #[.int .u64 a, .int .u64 b]) (.int .i64 0)).run Try.prog w = .ok (.int .u64 a) w := fun _ => by kernel_rfl
  have i1 : ∀ w, (Instr.index 52 (.agg #[.int .u64 a, .int .u64 b]) (.int .i64 1)).run Try.prog w = .ok (.int .u64 b) w := fun _ => by kernel_rfl
  go_enter Try.func26, Try.ntmps26
  go_wp2_with fail
  have hB : Below w.heap.size w (w.alloc (.cells #[.int .u64 a, .int .u64 b] 52)) := (Below.refl _ w).alloc (Nat.le_refl _) _
  refine wp_loop_rounds 3 ?_
  rw [rounds_succ]
  go_wp2_with fail
  refine (put_any w.heap.size _ [] a 8 _ (World.ownsRow_nil _ _ _ _) (by omega) (by simp) hB.size).mono ?_; rintro e w1 ⟨v1, rfl, o1, b1⟩
  have hB1 := hB.trans b1
  go_wp2_with fail
  rw [rounds_succ]
  go_wp2_with fail
  refine (put_any w.heap.size _ _ b 8 _ o1 (by omega) (by simp [Hm.be_length]) hB1.size).mono ?_; rintro e w2 ⟨v2, rfl, o2, b2⟩
  have hB2 := hB1.trans b2
  go_wp2_with fail
  rw [rounds_succ]
  go_wp2_with fail
  go_ret
  exact ⟨_, rfl, o2, hB2⟩
end Go.Proofs.Ytiijlakilogekaa
