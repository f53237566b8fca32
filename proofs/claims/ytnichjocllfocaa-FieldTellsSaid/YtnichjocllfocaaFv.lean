/-
  The walk over greatsealref01.Eval.
-/
import Derived.Test.YtnichjocllfocaaFr
import Derived.Test.YtnichjocllfocaaMe
namespace Go.Proofs.Ytnichjocllfocaa
open Go.RowKit

theorem U64.of_wf {x : Int} (h : (Lit.int .u64 x).wf = true) : U64 x := by
  simp [Lit.wf, IntKind.min, IntKind.max, IntKind.bits, IntKind.signed] at h; unfold U64; omega

set_option maxHeartbeats 800000 in
theorem REval_any (v : Value) (l : List Int) (x : Int) (w : World) (h : Row .u64 w v l) (hx : U64 x) :
    Calls Try.prog 27 #[v, .int .u64 x] w fun e w' => e = .returned (.int .u64 (Fm.eval l x)) ∧ w = w' := by
  obtain ⟨a1, c1, rfl, hl1, hc1, -, hw1, hr1⟩ := h
  unfold maxLen at hc1
  by_cases hne : l = []
  · subst hne
    clear hr1
    go_enter Try.func27, Try.ntmps27
    go_wp2_with fail
    go_loop [5, 6, 7] (fun o _ i => i = .int .i64 0 ∧ o = .int .u64 0) (fun _ _ _ => 0)
    case atStart => exact ⟨rfl, rfl⟩
    case round =>
      obtain ⟨rfl, rfl⟩ := hrel
      go_wp2_with fail
      go_ret
      exact ⟨rfl, rfl⟩
  · obtain ⟨b1, o1, rfl, hb1, hx1⟩ := hr1 hne
    have H1 := Lib.hid hx1
    have HW := Lib.hid hw1
    clear hr1 hx1 hw1 hne
    go_enter Try.func27, Try.ntmps27
    go_wp2_with fail
    go_loop [5, 6, 7] (fun o u i => ∃ (k : Nat) (o' u' : Int), k ≤ l.length ∧ i = .int .i64 k ∧ o = .int .u64 o' ∧ u = .int .u64 u' ∧ Hid (0 ≤ o' ∧ o' < Fm.P) ∧ Hid (0 ≤ u' ∧ u' < Fm.P) ∧
      Hid (Fm.add o' (Fm.mul u' (Fm.eval (l.drop k) x)) = Fm.eval l x)) (fun _ _ i => l.length - (intOf i).toNat)
    case atStart =>
      refine ⟨0, _, _, Nat.zero_le _, rfl, rfl, rfl, Lib.hid ⟨by omega, Fm.P_pos⟩, Lib.hid ⟨by omega, by unfold Fm.P; omega⟩, Lib.hid ?_⟩
      rw [List.drop_zero]; unfold Fm.add Fm.mul; rw [Int.one_mul, Int.zero_add, Int.emod_emod]; exact Fm.mod_small _ (Fm.eval_rng _ _).1 (Fm.eval_rng _ _).2
    case round =>
      obtain ⟨k, o, u, hk, rfl, rfl, rfl, Ho, Hu, HE⟩ := hrel
      by_cases hlt : k < l.length
      · have g1 := H1.out k hlt
        obtain ⟨c, hc⟩ : ∃ c, l[k]?.getD 0 = c := ⟨_, rfl⟩
        have hcl : l.drop k = c :: l.drop (k + 1) := by
          rw [List.drop_eq_getElem_cons hlt, ← hc, List.getElem?_eq_getElem hlt]; rfl
        have uc : U64 c := U64.of_wf (HW.out c (by rw [← hc, List.getElem?_eq_getElem hlt]; exact List.getElem_mem hlt))
        have uo := U64.of_rng Ho.out
        have uu := U64.of_rng Hu.out
        have um := U64.of_rng (Fm.mul_rng c u)
        have HN := Lib.hid (show Fm.add (Fm.add o (Fm.mul c u)) (Fm.mul (Fm.mul u x) (Fm.eval (l.drop (k + 1)) x)) = Fm.eval l x by
          rw [Fm.eval_step, ← Fm.eval_cons, ← hcl]; exact HE.out)
        rw [hc] at g1
        clear hc hcl
        go_wp2_with fail
        refine (RMul_any _ _ _ uc uu).mono ?_; rintro e w' ⟨rfl, rfl⟩
        go_wp2_with fail
        refine (RAdd_any _ _ _ uo um).mono ?_; rintro e w' ⟨rfl, rfl⟩
        go_wp2_with fail
        refine (RMul_any _ _ _ uu hx).mono ?_; rintro e w' ⟨rfl, rfl⟩
        go_wp2_with fail
        go_round
        case rel => exact ⟨k + 1, _, _, by omega, by go_num, rfl, rfl, Lib.hid (Fm.add_rng _ _), Lib.hid (Fm.mul_rng _ _), HN⟩
        case measure => simp [intOf]; omega
      · have hfin : o = Fm.eval l x := by
          rw [← HE.out, List.drop_eq_nil_of_le (by omega), Fm.eval_nil]
          unfold Fm.mul; rw [Int.mul_zero, Int.zero_emod, Fm.add, Int.add_zero, Fm.mod_small _ Ho.out.1 Ho.out.2]
        have Hf := Lib.hid hfin; clear hfin
        go_wp2_with fail
        go_ret
        exact ⟨ret_int Hf.out, rfl⟩
end Go.Proofs.Ytnichjocllfocaa
