/-
  Walks over cascade.Check and cascade.Has.
-/
import Derived.Test.YtconpdliadhahaaCa
import Derived.Test.YtconpdliadhahaaSz
import Derived.StillTailTactics
import Derived.Deep.QuietTactic
import Derived.BigQuiet
import Derived.Test.YtconpdliadhahaaVa
namespace Go.Proofs.Ytconpdliadhahaa
open Go.RowKit

/-- The first k levels may be. -/
def GoodTo (day : Int) (ls : List Sm.Sv) (k : Nat) : Prop := ∀ i, i < k → Cm.goodAt day i (ls[i]?.getD Cm.nil)
theorem goodTo_not {day : Int} {ls : List Sm.Sv} {k : Nat} (hk : k < ls.length) (h : ¬ Cm.goodAt day k (ls[k]?.getD Cm.nil)) (h16 : ls.length ≤ 16) : Cm.chk day ls = 1 := by
  unfold Cm.chk
  rw [if_neg (by omega), if_neg]
  rintro ⟨-, -, h3⟩
  exact h (h3 k hk)

set_option maxRecDepth 100000 in
set_option maxHeartbeats 4000000 in
theorem CCheck_any (day : Int) (vl : Value) (ls : List Sm.Sv) (w : World) (h : Svs w vl ls) (hl : ls.length ≤ 1000000) :
    Calls Try.prog 23 #[.agg #[.int .i64 day, vl]] w fun e w' => e = .returned (.int .i64 (Cm.chk day ls)) ∧ Below w.heap.size w w' := by
  obtain ⟨a, c, rfl⟩ := h.shape
  obtain ⟨B, hB⟩ : ∃ B, w.heap.size = B := ⟨_, rfl⟩
  have q0 := Duo.new w 35 (.int .i64 day) (.slice a ls.length c)
  have hb0 := (Below.refl w.heap.size w).alloc (Nat.le_refl _) (.cells #[.int .i64 day, .slice a ls.length c] 35)
  have r0 := h.alloc (.cells #[.int .i64 day, .slice a ls.length c] 35)
  rw [hB] at q0
  have HB := Lib.hid hB
  have R0 := Lib.hid r0
  clear h r0 hB
  have c0 := q0.cell0; have c1 := q0.cell1
  by_cases h16 : 16 < ls.length
  · have hf : Cm.chk day ls = 2 := by unfold Cm.chk; rw [if_pos h16]
    rw [hf]
    clear hf
    go_enter Try.func23, Try.ntmps23
    go_wp2_with fail
    (try rw [HB.out])
    go_wp2_with fail
    go_ret
    first | exact ⟨rfl, hb0⟩ | exact ⟨rfl, by rw [← HB.out]; exact hb0⟩
  · by_cases hd : Cm.dated day
    · have hdd := decide_eq_true hd
      have HD := Lib.hid hd
      have h16' : ¬ (16 : Int) < (ls.length : Int) := by omega
      have hdt := dated_any day (w.alloc (.cells #[.int .i64 day, .slice a ls.length c] 35))
      rw [hdd] at hdt
      obtain ⟨W, hW⟩ : ∃ W, w.alloc (.cells #[.int .i64 day, .slice a ls.length c] 35) = W := ⟨_, rfl⟩
      rw [hW] at q0 hb0 R0 c0 c1 hdt
      have HW := Lib.hid hW
      clear hd hdd hW
      go_enter Try.func23, Try.ntmps23
      go_wp2_with fail
      rw [HW.out]
      (try rw [HB.out])
      go_wp2_with fail
      refine hdt.mono ?_; rintro e w1 ⟨rfl, rfl⟩
      clear hdt
      go_wp2_with fail
      go_loopw [3, 4, 16] (fun _ _ i wr => ∃ k : Nat, i = .int .i64 k ∧ k ≤ ls.length ∧ GoodTo day ls k ∧ Below W.heap.size W wr) (fun _ _ i _ => ls.length - (intOf i).toNat)
      case atStart => exact ⟨0, rfl, Nat.zero_le _, fun i hi => absurd hi (Nat.not_lt_zero _), Below.refl _ _⟩
      case round =>
        obtain ⟨k, rfl, hk, hG, hb⟩ := hrel
        have HG := Lib.hid hG
        have k0 : (0 : Int) ≤ (k : Int) := by omega
        have e1 : IntKind.i64.wrap ((k : Int) + 1) = (k : Int) + 1 := IntWalk.i64_in _ (by omega)
        have hBr := hb0.trans (hb.mono hb0.size)
        have qr := q0.stp hb
        clear hG c0 c1
        have c0 := qr.cell0; have c1 := qr.cell1; have lt := qr.lt
        by_cases hlt : k < ls.length
        · obtain ⟨_, _, e', _, hcm, _, h5⟩ := R0.out.below hb
          cases e'
          obtain ⟨b, off, rfl, hbl, hc⟩ := h5 (by rintro rfl; simp at hlt)
          obtain ⟨vb, rb, x0, x1, x2, x3⟩ := hc k hlt
          obtain ⟨s, hs⟩ : ∃ s, ls[k]?.getD Cm.nil = s := ⟨_, rfl⟩
          rw [hs] at rb x0 x1 x2
          have HS := Lib.hid hs
          have k1 : (k : Int) < (ls.length : Int) := by omega
          obtain ⟨sb, sh, ss, sl⟩ := s
          dsimp only at rb x0 x1 x2
          obtain ⟨av, cv, rfl⟩ := rb.shape sl.length rfl
          clear hc h5 hs
          have qG := Quad.new wr 57 (.int .i64 sb) (.int .i64 sh) (.int .i64 ss) (.slice av sl.length cv)
          have qV := qr.alloc (.cells #[.int .i64 sb, .int .i64 sh, .int .i64 ss, .slice av sl.length cv] 57)
          have hV := hb.alloc hb.size (.cells #[.int .i64 sb, .int .i64 sh, .int .i64 ss, .slice av sl.length cv] 57)
          have hBV := hBr.alloc hBr.size (.cells #[.int .i64 sb, .int .i64 sh, .int .i64 ss, .slice av sl.length cv] 57)
          have rV := rb.alloc (.cells #[.int .i64 sb, .int .i64 sh, .int .i64 ss, .slice av sl.length cv] 57)
          go_wp2_with fail
          generalize hVe : wr.alloc (.cells #[.int .i64 sb, .int .i64 sh, .int .i64 ss, .slice av sl.length cv] 57) = V at *
          generalize hGe : wr.heap.size = G at *
          have RV := Lib.hid rV
          clear hVe hGe x0 x1 x2 x3 c0 c1 lt rb rV
          have c0 := qV.cell0; have c1 := qV.cell1; have ltV := qV.lt; have ltG := qG.lt
          have g0 := qG.cell0; have g1 := qG.cell1; have g2 := qG.cell2; have g3 := qG.cell3
          by_cases k3 : sh = 3
          · subst k3
            by_cases k4 : ss = 16 * day + k
            · subst k4
              have hsalt : ∀ W' : World, Calls Try.prog 43 #[.int .i64 day, .int .i64 k] W' fun e w' => e = .returned (.int .i64 (16 * day + k)) ∧ w' = W' := fun W' => (salt_any day k W' HD.out.1 HD.out.2 (by omega) (by omega)).mono fun _ _ h => ⟨h.1, h.2.symm⟩
              by_cases k5 : Sm.ok ⟨sb, 3, 16 * day + k, sl⟩
              · have K5 := Lib.hid k5
                have hyes : Cm.goodAt day k (ls[k]?.getD Cm.nil) := by rw [HS.out]; exact ⟨k5, rfl, rfl⟩
                have HY := Lib.hid hyes
                clear k5 hyes
                go_still_tail 14, (by kernel_rfl)
                still_call (hsalt _)
                repeat still_step
                refine wpStill_nil ?_
                change wpList _ _ _ _ _ V.drew
                go_wp2_with fail
                refine (Check_yes ⟨sb, 3, 16 * day + k, sl⟩ _ _ (by exact RV.out) K5.out).mono ?_; rintro e w3 ⟨rfl, hb3⟩
                have hb4 : Below V.heap.size V w3 := ⟨hb3.os, hb3.tape, hb3.output, hb3.size, hb3.block⟩
                have hW3 := hV.trans (hb4.mono hV.size)
                clear hb3 hb4 g0 g1 g2 g3 c0 c1
                go_wp2_with fail
                go_roundw
                case rel =>
                  refine ⟨k + 1, by go_num, by omega, fun i hi => ?_, hW3⟩
                  rcases Nat.lt_or_ge i k with h | h
                  · exact HG.out i h
                  · obtain rfl : i = k := by omega
                    exact HY.out
                case measure => simp [intOf]; omega
              · have K5 := Lib.hid k5
                have hno := goodTo_not (day := day) hlt (fun h => k5 (by have := h.1; rw [HS.out] at this; exact this)) (by omega)
                have HN := Lib.hid hno
                clear k5 hno
                go_still_tail 14, (by kernel_rfl)
                still_call (hsalt _)
                repeat still_step
                refine wpStill_nil ?_
                change wpList _ _ _ _ _ V.drew
                go_wp2_with fail
                refine (Check_not ⟨sb, 3, 16 * day + k, sl⟩ _ _ (by exact RV.out) K5.out).mono ?_; rintro e w3 ⟨rfl, hb3⟩
                have hb4 : Below V.heap.size V w3 := ⟨hb3.os, hb3.tape, hb3.output, hb3.size, hb3.block⟩
                have hW3 := hBV.trans (hb4.mono hBV.size)
                clear hb3 hb4 g0 g1 g2 g3 c0 c1
                go_wp2_with fail
                go_ret
                rw [HN.out]
                exact ⟨rfl, hW3⟩
            · have hno := goodTo_not (day := day) hlt (fun h => k4 (by have := h.2.2; rw [HS.out] at this; exact this)) (by omega)
              have HN := Lib.hid hno
              have hsalt : ∀ W' : World, Calls Try.prog 43 #[.int .i64 day, .int .i64 k] W' fun e w' => e = .returned (.int .i64 (16 * day + k)) ∧ w' = W' := fun W' => (salt_any day k W' HD.out.1 HD.out.2 (by omega) (by omega)).mono fun _ _ h => ⟨h.1, h.2.symm⟩
              clear hno
              go_quiet ((go_at_call 43; exact Calls.quiet_of_same (hsalt _)))
              go_wp2_with fail
              go_ret
              rw [HN.out]
              exact ⟨rfl, bel_drewN hBV _⟩
          · have hno := goodTo_not (day := day) hlt (fun h => k3 (by have := h.2.1; rw [HS.out] at this; exact this)) (by omega)
            have HN := Lib.hid hno
            clear hno
            go_quiet (fail)
            go_wp2_with fail
            go_ret
            rw [HN.out]
            exact ⟨rfl, bel_drewN hBV _⟩
        · obtain rfl : k = ls.length := by omega
          have hg : Cm.good day ls := ⟨by omega, HD.out, HG.out⟩
          have hf : Cm.chk day ls = 0 := by unfold Cm.chk; rw [if_neg h16, if_pos hg]
          have HF := Lib.hid hf
          clear hg hf
          go_wp2_with fail
          go_ret
          rw [HF.out]
          exact ⟨rfl, hBr⟩
    · have hf : Cm.chk day ls = 1 := by unfold Cm.chk; rw [if_neg h16, if_neg (fun h => hd h.2.1)]
      have hdt := dated_any day (w.alloc (.cells #[.int .i64 day, .slice a ls.length c] 35))
      rw [decide_eq_false hd] at hdt
      rw [hf]
      have h16' : ¬ (16 : Int) < (ls.length : Int) := by omega
      obtain ⟨W, hW⟩ : ∃ W, w.alloc (.cells #[.int .i64 day, .slice a ls.length c] 35) = W := ⟨_, rfl⟩
      rw [hW] at q0 hb0 R0 c0 c1 hdt
      have HW := Lib.hid hW
      clear hd hf hW
      go_enter Try.func23, Try.ntmps23
      go_wp2_with fail
      rw [HW.out]
      (try rw [HB.out])
      go_wp2_with fail
      refine hdt.mono ?_; rintro e w1 ⟨rfl, rfl⟩
      clear hdt
      go_wp2_with fail
      go_ret
      first | exact ⟨rfl, hb0⟩ | exact ⟨rfl, by rw [← HB.out]; exact hb0⟩
end Go.Proofs.Ytconpdliadhahaa
