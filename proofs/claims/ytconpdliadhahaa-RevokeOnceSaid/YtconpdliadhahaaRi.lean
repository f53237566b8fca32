/-
  The walk over RevokeOnce. (Printed by wip/gen_revlaws.py.)
-/
import Derived.Test.YtconpdliadhahaaZa
import Derived.Lib.QuietBelow
import Derived.BigQuiet
namespace Go.Proofs.Ytconpdliadhahaa
open Go.RowKit Go.Sort

set_option maxRecDepth 100000 in
set_option maxHeartbeats 8000000 in
theorem RevokeOnce_any (v : Value) (x : List Int × List Int) (n m : Int) (w : World) (h : RvV w v x) (k1 : (Lit.int .i64 n).wf = true) (_k2 : (Lit.int .i64 m).wf = true) :
    Calls Try.prog 5 #[v, .int .i64 n, .int .i64 m] w fun e w' => e = .returned (.bool true) ∧ Below w.heap.size w w' := by
  have K1 := Lib.hid k1
  clear k1 _k2
  obtain ⟨live, gone, al, cl, ag, cg, rfl, rl, rg⟩ := h.parts
  clear h
  have hB := Below.refl w.heap.size w
  go_enter Try.func5, Try.ntmps5
  have bR := Duo.new w 24 (.slice al live.length cl) (.slice ag gone.length cg)
  go_wp2_with fail
  refine (live27_true _).mono ?_; rintro e w1 ⟨rfl, hb⟩
  replace hB := bel_stp (bel_alloc hB _) hb
  replace rl := (rl.alloc _).stp hb
  replace rg := (rg.alloc _).stp hb
  replace bR := bR.stp hb
  clear hb
  have c0_bR := bR.cell0
  have c1_bR := bR.cell1
  have lt_bR := bR.lt
  obtain ⟨fw, hfw⟩ : ∃ b, (decide (live.length ≤ 300) && decide (gone.length ≤ 300)) = b := ⟨_, rfl⟩
  have HFw := Lib.hid hfw
  clear hfw
  go_wp2_with fail
  refine (RFew_any live.length gone.length al ag cl cg _).mono ?_; rintro e w2 ⟨rfl, hb⟩
  clear c0_bR c1_bR lt_bR
  replace hB := bel_stp hB hb
  replace rl := rl.stp hb
  replace rg := rg.stp hb
  replace bR := bR.stp hb
  clear hb
  rw [HFw.out]
  cases fw
  case false =>
    have c0_bR := bR.cell0
    have c1_bR := bR.cell1
    have lt_bR := bR.lt
    go_wp2_with fail
    go_ret
    exact ⟨rfl, hB⟩
  obtain ⟨n1, n2⟩ : live.length ≤ 300 ∧ gone.length ≤ 300 := by have := HFw.out; simpa using this
  clear HFw
  have c0_bR := bR.cell0
  have c1_bR := bR.cell1
  have lt_bR := bR.lt
  go_wp2_with fail
  refine (RCheck_any _ _ live gone _ rl rg (by omega) (by omega)).mono ?_; rintro e w3 ⟨rfl, hb⟩
  clear c0_bR c1_bR lt_bR
  replace hB := bel_stp hB hb
  replace rl := rl.stp hb
  replace rg := rg.stp hb
  replace bR := bR.stp hb
  clear hb
  by_cases hok : Rv.okay live gone
  case neg =>
    obtain ⟨cc, hcc⟩ : ∃ cc, Rv.chk live gone = cc := ⟨_, rfl⟩
    have hcn : ¬ cc = 0 := by rw [← hcc]; exact Rv.chk_not hok
    rw [hcc]
    clear hcc hok
    have c0_bR := bR.cell0
    have c1_bR := bR.cell1
    have lt_bR := bR.lt
    go_wp2_with fail
    go_ret
    exact ⟨rfl, hB⟩
  rw [Rv.chk_okay hok]
  have HOk := Lib.hid hok
  have n3 : live.length ≤ 256 := hok.2
  clear hok
  by_cases hz : Rv.revE live gone n = 0
  case neg =>
    have HR := Lib.hid (Rv.revR_not hz)
    by_cases hm : n ∈ live
    case neg =>
      have hE : Rv.revE live gone n = 131 := by unfold Rv.revE; rw [if_pos HOk.out, if_neg hm]
      have hgn : n ∉ gone := fun hg => hm (HOk.out.1.2.2 n hg)
      have HE := Lib.hid hE; have HM := Lib.hid hm; have HG := Lib.hid hgn
      clear hE hz hm hgn
      have c0_bR := bR.cell0
      have c1_bR := bR.cell1
      have lt_bR := bR.lt
      go_wp2_with fail
      refine (Rev_is _ _ live gone n 131 [] [] 0 0 _ rl rg (by omega) (by omega) K1.out HE.out HR.out rfl rfl).mono ?_; rintro e w4 ⟨⟨a3, c3, a4, c4, rfl, -, -⟩, hb⟩
      clear c0_bR c1_bR lt_bR
      replace hB := bel_stp hB hb
      replace rl := rl.stp hb
      replace rg := rg.stp hb
      replace bR := bR.stp hb
      clear hb
      have bA := Duo.new w4 24 (.slice a3 0 c3) (.slice a4 0 c4)
      have c0_bR := bR.cell0
      have c1_bR := bR.cell1
      have lt_bR := bR.lt
      have c0_bA := bA.cell0
      have c1_bA := bA.cell1
      have lt_bA := bA.lt
      go_wp2_with fail
      refine (RHas_any _ live n _ (rl.alloc _) (by omega)).mono ?_; rintro e wq ⟨rfl, rfl⟩
      rw [decide_eq_false HM.out]
      go_wp2_with fail
      refine (RGone_any _ _ gone n _ live.length _ _ rfl (rg.alloc _) (by omega)).mono ?_; rintro e w5 ⟨rfl, hb⟩
      clear c0_bR c1_bR lt_bR c0_bA c1_bA lt_bA
      replace hB := bel_stp (bel_alloc hB _) hb
      replace rl := (rl.alloc _).stp hb
      replace rg := (rg.alloc _).stp hb
      replace bR := (bR.alloc _).stp hb
      replace bA := bA.stp hb
      clear hb
      rw [decide_eq_false HG.out]
      go_wp2_with fail
      go_ret
      exact ⟨rfl, hB⟩
    have hgn : n ∈ gone := by
      by_cases h : n ∈ gone; exact h
      exact absurd ((Rv.revE_zero _ _ _).2 ⟨HOk.out, hm, h⟩) hz
    have hE : Rv.revE live gone n = 270 := by unfold Rv.revE; rw [if_pos HOk.out, if_pos hm, if_pos hgn]
    have HE := Lib.hid hE; have HM := Lib.hid hm; have HG := Lib.hid hgn
    clear hE hz hm hgn
    have c0_bR := bR.cell0
    have c1_bR := bR.cell1
    have lt_bR := bR.lt
    go_wp2_with fail
    refine (Rev_is _ _ live gone n 270 [] [] 0 0 _ rl rg (by omega) (by omega) K1.out HE.out HR.out rfl rfl).mono ?_; rintro e w4 ⟨⟨a3, c3, a4, c4, rfl, -, -⟩, hb⟩
    clear c0_bR c1_bR lt_bR
    replace hB := bel_stp hB hb
    replace rl := rl.stp hb
    replace rg := rg.stp hb
    replace bR := bR.stp hb
    clear hb
    have bA := Duo.new w4 24 (.slice a3 0 c3) (.slice a4 0 c4)
    have c0_bR := bR.cell0
    have c1_bR := bR.cell1
    have lt_bR := bR.lt
    have c0_bA := bA.cell0
    have c1_bA := bA.cell1
    have lt_bA := bA.lt
    go_wp2_with fail
    refine (RHas_any _ live n _ (rl.alloc _) (by omega)).mono ?_; rintro e wq ⟨rfl, rfl⟩
    rw [decide_eq_true HM.out]
    go_wp2_with fail
    refine (RGone_any _ _ gone n _ live.length _ _ rfl (rg.alloc _) (by omega)).mono ?_; rintro e w5 ⟨rfl, hb⟩
    clear c0_bR c1_bR lt_bR c0_bA c1_bA lt_bA
    replace hB := bel_stp (bel_alloc hB _) hb
    replace rl := (rl.alloc _).stp hb
    replace rg := (rg.alloc _).stp hb
    replace bR := (bR.alloc _).stp hb
    replace bA := bA.stp hb
    clear hb
    rw [decide_eq_true HG.out]
    have c0_bR := bR.cell0
    have c1_bR := bR.cell1
    have lt_bR := bR.lt
    have c0_bA := bA.cell0
    have c1_bA := bA.cell1
    have lt_bA := bA.lt
    go_wp2_with fail
    refine (RGone_any _ _ gone n _ live.length _ _ rfl rg (by omega)).mono ?_; rintro e w6 ⟨rfl, hb⟩
    clear c0_bR c1_bR lt_bR c0_bA c1_bA lt_bA
    replace hB := bel_stp hB hb
    replace rl := rl.stp hb
    replace rg := rg.stp hb
    replace bR := bR.stp hb
    replace bA := bA.stp hb
    clear hb
    rw [decide_eq_true HG.out]
    go_wp2_with fail
    go_ret
    exact ⟨rfl, hB⟩
  obtain ⟨-, z1, z2⟩ := (Rv.revE_zero _ _ _).1 hz
  have ok2 : Rv.okay live (Rv.ins gone n) := Rv.okay_rev HOk.out z1 z2
  have il := Rv.ins_length gone n
  have hmem : ∀ y, y ∈ Rv.ins gone n ↔ y = n ∨ y ∈ gone := fun y => Rv.mem_ins _ _ _
  have hR := Rv.revR_zero hz
  have hr : Sm.right n := HOk.out.1.1.1 n z1
  obtain ⟨A, hA⟩ : ∃ A, Rv.ins gone n = A := ⟨_, rfl⟩
  rw [hA] at ok2 il hmem hR
  have hnA : n ∈ A := (hmem n).2 (.inl rfl)
  have f1 : Rv.revE live A n = 270 := by unfold Rv.revE; rw [if_pos ok2, if_pos z1, if_pos hnA]
  have f2 : Rv.addE live A n = 221 := by unfold Rv.addE; rw [if_pos ok2, if_pos hr, if_pos z1]
  obtain ⟨nl, hnl⟩ : ∃ nl, A.length = nl := ⟨_, rfl⟩
  rw [hnl] at il
  have e1 : IntKind.i64.wrap ((gone.length : Int) + 1) = (nl : Int) := by rw [IntWalk.i64_in _ (by omega)]; omega
  have G1 := Lib.hid (Rv.revR_not (live := live) (gone := A) (n := n) (by rw [f1]; decide)); have G2 := Lib.hid (Rv.addR_not (live := live) (gone := A) (n := n) (by rw [f2]; decide))
  have Z := Lib.hid hz; have Z1 := Lib.hid z1; have Z2 := Lib.hid z2; have HR := Lib.hid hR; have OK2 := Lib.hid ok2; have HM := Lib.hid hmem; have HNA := Lib.hid hnA; have F1 := Lib.hid f1; have F2 := Lib.hid f2; have HNl := Lib.hid hnl; have IL := Lib.hid il
  clear hz z1 z2 hR ok2 hmem hnA f1 f2 hnl il hr hA
  have c0_bR := bR.cell0
  have c1_bR := bR.cell1
  have lt_bR := bR.lt
  go_wp2_with fail
  refine (Rev_is _ _ live gone n 0 live A live.length nl _ rl rg (by omega) (by omega) K1.out Z.out HR.out rfl HNl.out).mono ?_; rintro e w4 ⟨⟨a3, c3, a4, c4, rfl, x1, x2⟩, hb⟩
  clear c0_bR c1_bR lt_bR
  replace hB := bel_stp hB hb
  replace rl := rl.stp hb
  replace rg := rg.stp hb
  replace bR := bR.stp hb
  clear hb
  have bA := Duo.new w4 24 (.slice a3 live.length c3) (.slice a4 nl c4)
  have c0_bR := bR.cell0
  have c1_bR := bR.cell1
  have lt_bR := bR.lt
  have c0_bA := bA.cell0
  have c1_bA := bA.cell1
  have lt_bA := bA.lt
  go_wp2_with fail
  refine (RHas_any _ live n _ (rl.alloc _) (by omega)).mono ?_; rintro e wq ⟨rfl, rfl⟩
  rw [decide_eq_true Z1.out]
  go_wp2_with fail
  refine (RGone_any _ _ gone n _ live.length _ _ rfl (rg.alloc _) (by omega)).mono ?_; rintro e w5 ⟨rfl, hb⟩
  clear c0_bR c1_bR lt_bR c0_bA c1_bA lt_bA
  replace hB := bel_stp (bel_alloc hB _) hb
  replace rl := (rl.alloc _).stp hb
  replace rg := (rg.alloc _).stp hb
  replace bR := (bR.alloc _).stp hb
  replace x1 := (x1.alloc _).stp hb
  replace x2 := (x2.alloc _).stp hb
  replace bA := bA.stp hb
  clear hb
  rw [decide_eq_false Z2.out]
  have c0_bA := bA.cell0
  have c1_bA := bA.cell1
  have lt_bA := bA.lt
  have c0_bR := bR.cell0
  have c1_bR := bR.cell1
  have lt_bR := bR.lt
  go_wp2_with fail
  refine (Rev_is _ _ live A n 270 [] [] 0 0 _ x1 x2 (by omega) (by rw [HNl.out, IL.out]; omega) K1.out F1.out G1.out rfl rfl).mono ?_; rintro e w6 ⟨⟨a5, c5, a6, c6, rfl, -, -⟩, hb⟩
  clear c0_bA c1_bA lt_bA c0_bR c1_bR lt_bR
  replace hB := bel_stp hB hb
  replace rl := rl.stp hb
  replace rg := rg.stp hb
  replace bR := bR.stp hb
  replace x1 := x1.stp hb
  replace x2 := x2.stp hb
  replace bA := bA.stp hb
  clear hb
  have c0_bA := bA.cell0
  have c1_bA := bA.cell1
  have lt_bA := bA.lt
  have c0_bR := bR.cell0
  have c1_bR := bR.cell1
  have lt_bR := bR.lt
  go_wp2_with fail
  refine (Add_is _ _ live A n 221 [] [] 0 0 _ (x1.alloc _) (x2.alloc _) (by omega) (by rw [HNl.out, IL.out]; omega) K1.out F2.out G2.out rfl rfl).mono ?_; rintro e w7 ⟨⟨a7, c7, a8, c8, rfl, -, -⟩, hb⟩
  clear c0_bA c1_bA lt_bA c0_bR c1_bR lt_bR
  replace hB := bel_stp (bel_alloc hB _) hb
  replace rl := (rl.alloc _).stp hb
  replace rg := (rg.alloc _).stp hb
  replace bR := (bR.alloc _).stp hb
  replace x1 := (x1.alloc _).stp hb
  replace x2 := (x2.alloc _).stp hb
  replace bA := (bA.alloc _).stp hb
  clear hb
  replace hB := bel_alloc hB (.cells #[.slice a7 0 c7, .slice a8 0 c8] 24)
  replace rl := rl.alloc (.cells #[.slice a7 0 c7, .slice a8 0 c8] 24)
  replace rg := rg.alloc (.cells #[.slice a7 0 c7, .slice a8 0 c8] 24)
  replace bR := bR.alloc (.cells #[.slice a7 0 c7, .slice a8 0 c8] 24)
  replace x1 := x1.alloc (.cells #[.slice a7 0 c7, .slice a8 0 c8] 24)
  replace x2 := x2.alloc (.cells #[.slice a7 0 c7, .slice a8 0 c8] 24)
  replace bA := bA.alloc (.cells #[.slice a7 0 c7, .slice a8 0 c8] 24)
  obtain ⟨V, hV⟩ : ∃ V, World.alloc w7 (.cells #[.slice a7 0 c7, .slice a8 0 c8] 24) = V := ⟨_, rfl⟩
  rw [hV] at hB rl rg bR x1 x2 bA
  by_cases hmn : m = n
  case pos =>
    have hnm := hmn.symm
    subst hnm
    have c0_bA := bA.cell0
    have c1_bA := bA.cell1
    have lt_bA := bA.lt
    have c0_bR := bR.cell0
    have c1_bR := bR.cell1
    have lt_bR := bR.lt
    have q_c0_bA := cell_regrown c0_bA
    have q_c1_bA := cell_regrown c1_bA
    have q_c0_bR := cell_regrown c0_bR
    have q_c1_bR := cell_regrown c1_bR
    have q1 : ∀ d os, Calls Try.prog 15 #[.agg #[.slice a3 live.length c3, .slice a4 nl c4]] (grow (redrawn V d) os) fun e w'' => e = .returned (.int .i64 0) ∧ ∃ p : Regrown, w'' = grow (redrawn V p.d) p.os := fun d os => Calls.regrown_of (by have bw := below_regrown V d os; exact (RCheck_any _ _ live A _ (x1.below bw) (x2.below bw) (by omega) (by rw [HNl.out, IL.out]; omega)).mono (fun _ _ h => ⟨by rw [h.1, Rv.chk_okay OK2.out], h.2⟩))
    have q2 : ∀ d os, Calls Try.prog 17 #[.agg #[.slice a3 live.length c3, .slice a4 nl c4], .int .i64 n] (grow (redrawn V d) os) fun e w'' => e = .returned (.bool true) ∧ ∃ p : Regrown, w'' = grow (redrawn V p.d) p.os := fun d os => Calls.regrown_of (by have bw := below_regrown V d os; exact (RGone_any _ _ A n _ live.length _ _ rfl (x2.below bw) (by rw [HNl.out, IL.out]; omega)).mono (fun _ _ h => ⟨by rw [h.1, decide_eq_true HNA.out], h.2⟩))
    have q3 : ∀ d os, Calls Try.prog 25 #[.slice a3 live.length c3, .slice al live.length cl] (grow (redrawn V d) os) fun e w'' => e = .returned (.bool true) ∧ ∃ p : Regrown, w'' = grow (redrawn V p.d) p.os := fun d os => Calls.regrown_of (by have bw := below_regrown V d os; exact (RInts_any _ _ live live _ (x1.below bw) (rl.below bw) (by omega) (by omega)).mono (fun _ _ h => ⟨by rw [h.1, decide_eq_true (rfl : live = live)], h.2⟩))
    go_wp2_with fail
    (try rw [hV])
    refine wp_region_quiet_below (by kernel_rfl) (by kernel_rfl) ?_
    repeat (go_big_quiet_step (first | exact q1 _ _ | exact q2 _ _ | exact q3 _ _))
    refine wpQuiet_nil ?_
    intro _ hw'
    obtain ⟨⟨dq, osq⟩, hw''⟩ := hw'
    subst hw''
    go_wp2_with fail
    go_ret
    exact ⟨rfl, hB.trans ((below_regrown V dq osq).mono hB.size)⟩
  obtain ⟨y, hy⟩ : ∃ y, decide (m ∈ gone) = y := ⟨_, rfl⟩
  have Y2 : Hid (decide (m ∈ A) = y) := Lib.hid (by rw [← hy]; exact decide_eq_decide.2 ⟨fun h => by rcases (HM.out m).1 h with e | h; exact absurd e hmn; exact h, fun h => (HM.out m).2 (.inr h)⟩)
  have Y1 := Lib.hid hy
  clear hy
  have hd1 : (m == n) = false := by simpa using hmn
  have c0_bA := bA.cell0
  have c1_bA := bA.cell1
  have lt_bA := bA.lt
  have c0_bR := bR.cell0
  have c1_bR := bR.cell1
  have lt_bR := bR.lt
  have q_c0_bA := cell_regrown c0_bA
  have q_c1_bA := cell_regrown c1_bA
  have q_c0_bR := cell_regrown c0_bR
  have q_c1_bR := cell_regrown c1_bR
  have q1 : ∀ d os, Calls Try.prog 15 #[.agg #[.slice a3 live.length c3, .slice a4 nl c4]] (grow (redrawn V d) os) fun e w'' => e = .returned (.int .i64 0) ∧ ∃ p : Regrown, w'' = grow (redrawn V p.d) p.os := fun d os => Calls.regrown_of (by have bw := below_regrown V d os; exact (RCheck_any _ _ live A _ (x1.below bw) (x2.below bw) (by omega) (by rw [HNl.out, IL.out]; omega)).mono (fun _ _ h => ⟨by rw [h.1, Rv.chk_okay OK2.out], h.2⟩))
  have q2 : ∀ d os, Calls Try.prog 17 #[.agg #[.slice a3 live.length c3, .slice a4 nl c4], .int .i64 n] (grow (redrawn V d) os) fun e w'' => e = .returned (.bool true) ∧ ∃ p : Regrown, w'' = grow (redrawn V p.d) p.os := fun d os => Calls.regrown_of (by have bw := below_regrown V d os; exact (RGone_any _ _ A n _ live.length _ _ rfl (x2.below bw) (by rw [HNl.out, IL.out]; omega)).mono (fun _ _ h => ⟨by rw [h.1, decide_eq_true HNA.out], h.2⟩))
  have q3 : ∀ d os, Calls Try.prog 25 #[.slice a3 live.length c3, .slice al live.length cl] (grow (redrawn V d) os) fun e w'' => e = .returned (.bool true) ∧ ∃ p : Regrown, w'' = grow (redrawn V p.d) p.os := fun d os => Calls.regrown_of (by have bw := below_regrown V d os; exact (RInts_any _ _ live live _ (x1.below bw) (rl.below bw) (by omega) (by omega)).mono (fun _ _ h => ⟨by rw [h.1, decide_eq_true (rfl : live = live)], h.2⟩))
  have q4 : ∀ d os, Calls Try.prog 17 #[.agg #[.slice a3 live.length c3, .slice a4 nl c4], .int .i64 m] (grow (redrawn V d) os) fun e w'' => e = .returned (.bool y) ∧ ∃ p : Regrown, w'' = grow (redrawn V p.d) p.os := fun d os => Calls.regrown_of (by have bw := below_regrown V d os; exact (RGone_any _ _ A m _ live.length _ _ rfl (x2.below bw) (by rw [HNl.out, IL.out]; omega)).mono (fun _ _ h => ⟨by rw [h.1, Y2.out], h.2⟩))
  have q5 : ∀ d os, Calls Try.prog 17 #[.agg #[.slice al live.length cl, .slice ag gone.length cg], .int .i64 m] (grow (redrawn V d) os) fun e w'' => e = .returned (.bool y) ∧ ∃ p : Regrown, w'' = grow (redrawn V p.d) p.os := fun d os => Calls.regrown_of (by have bw := below_regrown V d os; exact (RGone_any _ _ gone m _ live.length _ _ rfl (rg.below bw) (by omega)).mono (fun _ _ h => ⟨by rw [h.1, Y1.out], h.2⟩))
  go_wp2_with fail
  (try rw [hV])
  refine wp_region_quiet_below (by kernel_rfl) (by kernel_rfl) ?_
  repeat (go_big_quiet_step (first | exact q1 _ _ | exact q2 _ _ | exact q3 _ _ | exact q4 _ _ | exact q5 _ _))
  refine wpQuiet_nil ?_
  intro _ hw'
  obtain ⟨⟨dq, osq⟩, hw''⟩ := hw'
  subst hw''
  go_wp2_with fail
  go_ret
  exact ⟨rfl, hB.trans ((below_regrown V dq osq).mono hB.size)⟩
end Go.Proofs.Ytconpdliadhahaa
