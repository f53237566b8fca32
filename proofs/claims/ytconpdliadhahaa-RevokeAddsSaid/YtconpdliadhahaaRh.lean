/-
  The walk over RevokeAdds. (Printed by wip/gen_revlaws.py.)
-/
import Derived.Test.YtconpdliadhahaaZa
namespace Go.Proofs.Ytconpdliadhahaa
open Go.RowKit

set_option maxRecDepth 100000 in
set_option maxHeartbeats 8000000 in
theorem RevokeAdds_any (v : Value) (x : List Int × List Int) (n m : Int) (w : World) (h : RvV w v x) (k1 : (Lit.int .i64 n).wf = true) (k2 : (Lit.int .i64 m).wf = true) :
    Calls Try.prog 6 #[v, .int .i64 n, .int .i64 m] w fun e w' => e = .returned (.bool true) ∧ Below w.heap.size w w' := by
  have K1 := Lib.hid k1; have K2 := Lib.hid k2
  clear k1 k2
  obtain ⟨live, gone, al, cl, ag, cg, rfl, rl, rg⟩ := h.parts
  clear h
  have hB := Below.refl w.heap.size w
  go_enter Try.func6, Try.ntmps6
  have bR := Duo.new w 24 (.slice al live.length cl) (.slice ag gone.length cg)
  go_wp2_with fail
  refine (live27_true _).mono ?_; rintro e w1 ⟨rfl, hb⟩
  replace hB := bel_stp (bel_alloc hB _) hb
  replace rl := (rl.alloc _).stp hb
  replace rg := (rg.alloc _).stp hb
  replace bR := bR.stp hb
  clear hb
  have c0_bR := bR.cell0
  have c1_bR := bR.cell1
  have lt_bR := bR.lt
  obtain ⟨fw, hfw⟩ : ∃ b, (decide (live.length ≤ 300) && decide (gone.length ≤ 300)) = b := ⟨_, rfl⟩
  have HFw := Lib.hid hfw
  clear hfw
  go_wp2_with fail
  refine (RFew_any live.length gone.length al ag cl cg _).mono ?_; rintro e w2 ⟨rfl, hb⟩
  clear c0_bR c1_bR lt_bR
  replace hB := bel_stp hB hb
  replace rl := rl.stp hb
  replace rg := rg.stp hb
  replace bR := bR.stp hb
  clear hb
  rw [HFw.out]
  cases fw
  case false =>
    have c0_bR := bR.cell0
    have c1_bR := bR.cell1
    have lt_bR := bR.lt
    go_wp2_with fail
    go_ret
    exact ⟨rfl, hB⟩
  obtain ⟨n1, n2⟩ : live.length ≤ 300 ∧ gone.length ≤ 300 := by have := HFw.out; simpa using this
  clear HFw
  have c0_bR := bR.cell0
  have c1_bR := bR.cell1
  have lt_bR := bR.lt
  go_wp2_with fail
  refine (RCheck_any _ _ live gone _ rl rg (by omega) (by omega)).mono ?_; rintro e w3 ⟨rfl, hb⟩
  clear c0_bR c1_bR lt_bR
  replace hB := bel_stp hB hb
  replace rl := rl.stp hb
  replace rg := rg.stp hb
  replace bR := bR.stp hb
  clear hb
  by_cases hok : Rv.okay live gone
  case neg =>
    obtain ⟨cc, hcc⟩ : ∃ cc, Rv.chk live gone = cc := ⟨_, rfl⟩
    have hcn : ¬ cc = 0 := by rw [← hcc]; exact Rv.chk_not hok
    rw [hcc]
    clear hcc hok
    have c0_bR := bR.cell0
    have c1_bR := bR.cell1
    have lt_bR := bR.lt
    go_wp2_with fail
    go_ret
    exact ⟨rfl, hB⟩
  rw [Rv.chk_okay hok]
  have HOk := Lib.hid hok
  have n3 : live.length ≤ 256 := hok.2
  clear hok
  by_cases hz : Rv.addE live gone n = 0
  case neg =>
    obtain ⟨E, hE⟩ : ∃ E, Rv.addE live gone n = E := ⟨_, rfl⟩
    rw [hE] at hz
    have hE' := hE
    unfold Rv.addE at hE'
    rw [if_pos HOk.out] at hE'
    have HE := Lib.hid hE; have HE' := Lib.hid hE'
    have HR := Lib.hid (Rv.addR_not (live := live) (gone := gone) (n := n) (by rw [hE]; exact hz))
    clear hE hE'
    have c0_bR := bR.cell0
    have c1_bR := bR.cell1
    have lt_bR := bR.lt
    go_wp2_with fail
    refine (Add_is _ _ live gone n E [] [] 0 0 _ rl rg (by omega) (by omega) K1.out HE.out HR.out rfl rfl).mono ?_; rintro e w4 ⟨⟨a3, c3, a4, c4, rfl, -, -⟩, hb⟩
    clear c0_bR c1_bR lt_bR
    replace hB := bel_stp hB hb
    replace rl := rl.stp hb
    replace rg := rg.stp hb
    replace bR := bR.stp hb
    clear hb
    have bA := Duo.new w4 24 (.slice a3 0 c3) (.slice a4 0 c4)
    have c0_bR := bR.cell0
    have c1_bR := bR.cell1
    have lt_bR := bR.lt
    have c0_bA := bA.cell0
    have c1_bA := bA.cell1
    have lt_bA := bA.lt
    by_cases h1 : n < 0
    case pos =>
      go_wp2_with fail
      go_ret
      exact ⟨rfl, (bel_alloc hB _)⟩
    by_cases h2 : 1099511627776 < n
    case pos =>
      go_wp2_with fail
      go_ret
      exact ⟨rfl, (bel_alloc hB _)⟩
    have hri : Sm.right n := ⟨by omega, by omega⟩
    have HRi := Lib.hid hri
    clear hri
    go_wp2_with fail
    refine (RHas_any _ live n _ (rl.alloc _) (by omega)).mono ?_; rintro e w5 ⟨rfl, rfl⟩
    by_cases hm : n ∈ live
    case pos =>
      rw [decide_eq_true hm]
      clear hm
      go_wp2_with fail
      go_ret
      exact ⟨rfl, (bel_alloc hB _)⟩
    rw [decide_eq_false hm]
    have h256 : live.length = 256 := by
      have := HE'.out; rw [if_pos HRi.out, if_neg hm] at this
      by_cases h : live.length = 256; exact h
      rw [if_neg h] at this; exact absurd this.symm hz
    have h256' : (live.length : Int) = 256 := by omega
    clear hm h256
    go_wp2_with fail
    go_ret
    exact ⟨rfl, (bel_alloc hB _)⟩
  obtain ⟨-, z1, z2, z3⟩ := (Rv.addE_zero _ _ _).1 hz
  have ok2 : Rv.okay (Rv.ins live n) gone := Rv.okay_add HOk.out z1 z2 z3
  have il := Rv.ins_length live n
  have hmem : n ∈ Rv.ins live n := (Rv.mem_ins _ _ _).2 (.inl rfl)
  have hgn : n ∉ gone := fun hg => z2 (HOk.out.1.2.2 n hg)
  have hR := Rv.addR_zero hz
  obtain ⟨A, hA⟩ : ∃ A, Rv.ins live n = A := ⟨_, rfl⟩
  rw [hA] at ok2 il hmem hR
  obtain ⟨nl, hnl⟩ : ∃ nl, A.length = nl := ⟨_, rfl⟩
  rw [hnl] at il
  have e1 : IntKind.i64.wrap ((live.length : Int) + 1) = (nl : Int) := by rw [IntWalk.i64_in _ (by omega)]; omega
  have Z := Lib.hid hz; have Z1 := Lib.hid z1; have Z2 := Lib.hid z2; have Z3 := Lib.hid z3; have HR := Lib.hid hR; have OK2 := Lib.hid ok2; have HM := Lib.hid hmem; have HGn := Lib.hid hgn; have HA := Lib.hid hA; have HNl := Lib.hid hnl
  have IL := Lib.hid il
  clear hz z1 z2 z3 hR ok2 hmem hgn hA hnl il
  have c0_bR := bR.cell0
  have c1_bR := bR.cell1
  have lt_bR := bR.lt
  go_wp2_with fail
  refine (Add_is _ _ live gone n 0 A gone nl gone.length _ rl rg (by omega) (by omega) K1.out Z.out HR.out HNl.out rfl).mono ?_; rintro e w4 ⟨⟨a3, c3, a4, c4, rfl, x1, x2⟩, hb⟩
  clear c0_bR c1_bR lt_bR
  replace hB := bel_stp hB hb
  replace rl := rl.stp hb
  replace rg := rg.stp hb
  replace bR := bR.stp hb
  clear hb
  have bA := Duo.new w4 24 (.slice a3 nl c3) (.slice a4 gone.length c4)
  have c0_bA := bA.cell0
  have c1_bA := bA.cell1
  have lt_bA := bA.lt
  have c0_bR := bR.cell0
  have c1_bR := bR.cell1
  have lt_bR := bR.lt
  go_wp2_with fail
  refine (RCheck_any _ _ A gone _ (x1.alloc _) (x2.alloc _) (by rw [HNl.out, IL.out]; omega) (by omega)).mono ?_; rintro e w5 ⟨rfl, hb⟩
  clear c0_bA c1_bA lt_bA c0_bR c1_bR lt_bR
  replace hB := bel_stp (bel_alloc hB _) hb
  replace rl := (rl.alloc _).stp hb
  replace rg := (rg.alloc _).stp hb
  replace bR := (bR.alloc _).stp hb
  replace x1 := (x1.alloc _).stp hb
  replace x2 := (x2.alloc _).stp hb
  replace bA := bA.stp hb
  clear hb
  rw [Rv.chk_okay OK2.out]
  have c0_bA := bA.cell0
  have c1_bA := bA.cell1
  have lt_bA := bA.lt
  have c0_bR := bR.cell0
  have c1_bR := bR.cell1
  have lt_bR := bR.lt
  go_wp2_with fail
  refine (RHas_any _ A n _ x1 (by rw [HNl.out, IL.out]; omega)).mono ?_; rintro e wq ⟨rfl, rfl⟩
  rw [decide_eq_true HM.out]
  go_wp2_with fail
  refine (RGone_any _ _ gone n _ nl _ _ rfl x2 (by omega)).mono ?_; rintro e w6 ⟨rfl, hb⟩
  clear c0_bA c1_bA lt_bA c0_bR c1_bR lt_bR
  replace hB := bel_stp hB hb
  replace rl := rl.stp hb
  replace rg := rg.stp hb
  replace bR := bR.stp hb
  replace x1 := x1.stp hb
  replace x2 := x2.stp hb
  replace bA := bA.stp hb
  clear hb
  rw [decide_eq_false HGn.out]
  have c0_bA := bA.cell0
  have c1_bA := bA.cell1
  have lt_bA := bA.lt
  have c0_bR := bR.cell0
  have c1_bR := bR.cell1
  have lt_bR := bR.lt
  go_wp2_with fail
  refine (RInts_any _ _ gone gone _ x2 rg (by omega) (by omega)).mono ?_; rintro e w7 ⟨rfl, hb⟩
  clear c0_bA c1_bA lt_bA c0_bR c1_bR lt_bR
  replace hB := bel_stp hB hb
  replace rl := rl.stp hb
  replace rg := rg.stp hb
  replace bR := bR.stp hb
  replace x1 := x1.stp hb
  replace x2 := x2.stp hb
  replace bA := bA.stp hb
  clear hb
  rw [decide_eq_true (rfl : gone = gone)]
  by_cases hz1 : Rv.addE A gone m = 0
  case neg =>
    obtain ⟨E1, hE1⟩ : ∃ E, Rv.addE A gone m = E := ⟨_, rfl⟩
    have HR1 := Lib.hid (Rv.addR_not hz1)
    rw [hE1] at hz1
    have HE1 := Lib.hid hE1
    clear hE1
    obtain ⟨E2, hE2⟩ : ∃ E, Rv.addE live gone m = E := ⟨_, rfl⟩
    have hb2 := Rv.addR_len live gone m
    obtain ⟨L2, hL2⟩ : ∃ E, (Rv.addR live gone m).1 = E := ⟨_, rfl⟩
    obtain ⟨G2, hG2⟩ : ∃ E, (Rv.addR live gone m).2 = E := ⟨_, rfl⟩
    rw [hL2, hG2] at hb2
    have HR2 : Hid (Rv.addR live gone m = (L2, G2)) := Lib.hid (by rw [← hL2, ← hG2])
    have HE2 := Lib.hid hE2
    obtain ⟨b2, b3⟩ := hb2
    clear hE2 hL2 hG2
    obtain ⟨E3, hE3⟩ : ∃ E, Rv.addE L2 G2 n = E := ⟨_, rfl⟩
    obtain ⟨L3, hL3⟩ : ∃ E, (Rv.addR L2 G2 n).1 = E := ⟨_, rfl⟩
    obtain ⟨G3, hG3⟩ : ∃ E, (Rv.addR L2 G2 n).2 = E := ⟨_, rfl⟩
    have HR3 : Hid (Rv.addR L2 G2 n = (L3, G3)) := Lib.hid (by rw [← hL3, ← hG3])
    have HE3 := Lib.hid hE3
    clear hE3 hL3 hG3
    have c0_bA := bA.cell0
    have c1_bA := bA.cell1
    have lt_bA := bA.lt
    have c0_bR := bR.cell0
    have c1_bR := bR.cell1
    have lt_bR := bR.lt
    go_wp2_with fail
    refine (Add_is _ _ A gone m E1 [] [] 0 0 _ x1 x2 (by rw [HNl.out, IL.out]; omega) (by omega) K2.out HE1.out HR1.out rfl rfl).mono ?_; rintro e w8 ⟨⟨a5, c5, a6, c6, rfl, -, -⟩, hb⟩
    clear c0_bA c1_bA lt_bA c0_bR c1_bR lt_bR
    replace hB := bel_stp hB hb
    replace rl := rl.stp hb
    replace rg := rg.stp hb
    replace bR := bR.stp hb
    replace x1 := x1.stp hb
    replace x2 := x2.stp hb
    replace bA := bA.stp hb
    clear hb
    have c0_bA := bA.cell0
    have c1_bA := bA.cell1
    have lt_bA := bA.lt
    have c0_bR := bR.cell0
    have c1_bR := bR.cell1
    have lt_bR := bR.lt
    go_wp2_with fail
    refine (Add_is _ _ live gone m E2 L2 G2 _ _ _ (rl.alloc _) (rg.alloc _) (by omega) (by omega) K2.out HE2.out HR2.out rfl rfl).mono ?_; rintro e w9 ⟨⟨a7, c7, a8, c8, rfl, y1, y2⟩, hb⟩
    clear c0_bA c1_bA lt_bA c0_bR c1_bR lt_bR
    replace hB := bel_stp (bel_alloc hB _) hb
    replace rl := (rl.alloc _).stp hb
    replace rg := (rg.alloc _).stp hb
    replace bR := (bR.alloc _).stp hb
    replace x1 := (x1.alloc _).stp hb
    replace x2 := (x2.alloc _).stp hb
    replace bA := (bA.alloc _).stp hb
    clear hb
    have bB := Duo.new w9 24 (.slice a7 L2.length c7) (.slice a8 G2.length c8)
    have c0_bB := bB.cell0
    have c1_bB := bB.cell1
    have lt_bB := bB.lt
    have c0_bR := bR.cell0
    have c1_bR := bR.cell1
    have lt_bR := bR.lt
    go_wp2_with fail
    refine (Add_is _ _ L2 G2 n E3 L3 G3 _ _ _ (y1.alloc _) (y2.alloc _) (by omega) (by omega) K1.out HE3.out HR3.out rfl rfl).mono ?_; rintro e w10 ⟨⟨a9, c9, a10, c10, rfl, -, -⟩, hb⟩
    clear c0_bB c1_bB lt_bB c0_bR c1_bR lt_bR
    replace hB := bel_stp (bel_alloc hB _) hb
    replace rl := (rl.alloc _).stp hb
    replace rg := (rg.alloc _).stp hb
    replace bR := (bR.alloc _).stp hb
    replace x1 := (x1.alloc _).stp hb
    replace x2 := (x2.alloc _).stp hb
    replace bA := (bA.alloc _).stp hb
    replace y1 := (y1.alloc _).stp hb
    replace y2 := (y2.alloc _).stp hb
    replace bB := bB.stp hb
    clear hb
    go_wp2_with fail
    go_ret
    exact ⟨rfl, (bel_alloc hB _)⟩
  obtain ⟨-, t1, t2, t3⟩ := (Rv.addE_zero _ _ _).1 hz1
  have il := IL.out
  have hmn : n ≠ m := fun e => t2 (e ▸ HM.out)
  have hml : m ∉ live := fun hx => t2 (by rw [← HA.out]; exact (Rv.mem_ins _ _ _).2 (.inr hx))
  have hz2 : Rv.addE live gone m = 0 := (Rv.addE_zero _ _ _).2 ⟨HOk.out, t1, hml, Z3.out⟩
  have hR1 := Rv.addR_zero hz1
  have hR2 := Rv.addR_zero hz2
  have il2 := Rv.ins_length live m
  have ok3 : Rv.okay (Rv.ins live m) gone := Rv.okay_add HOk.out t1 hml Z3.out
  have hn2 : n ∉ Rv.ins live m := fun hx => by rcases (Rv.mem_ins _ _ _).1 hx with e | h; exact hmn e; exact Z2.out h
  have hz3 : Rv.addE (Rv.ins live m) gone n = 0 := (Rv.addE_zero _ _ _).2 ⟨ok3, Z1.out, hn2, by rw [il2, ← il]; rw [HNl.out] at t3; exact t3⟩
  have hR3 := Rv.addR_zero hz3
  have hsame : Rv.ins A m = Rv.ins (Rv.ins live m) n := by rw [← HA.out]; exact Rv.ins_ins HOk.out.1.1.2 Z2.out hml hmn
  have il1 := Rv.ins_length A m
  have il3 := Rv.ins_length (Rv.ins live m) n
  rw [← hsame] at hR3 il3
  obtain ⟨AB, hAB⟩ : ∃ X, Rv.ins A m = X := ⟨_, rfl⟩
  obtain ⟨B, hBB⟩ : ∃ X, Rv.ins live m = X := ⟨_, rfl⟩
  rw [hAB] at hR1 hR3 il1 il3
  rw [hBB] at hR2 il2 hz3 hR3 il3
  have Q1 := Lib.hid hz1; have Q2 := Lib.hid hz2; have Q3 := Lib.hid hz3; have P1 := Lib.hid hR1; have P2 := Lib.hid hR2; have P3 := Lib.hid hR3
  have lB : B.length ≤ 1000 := by omega
  have lAB : AB.length ≤ 1000 := by have := HNl.out; omega
  clear il hz1 t1 t2 t3 hmn hml hz2 hR1 hR2 il2 ok3 hn2 hz3 hR3 hsame il1 il3 hAB hBB
  have c0_bA := bA.cell0
  have c1_bA := bA.cell1
  have lt_bA := bA.lt
  have c0_bR := bR.cell0
  have c1_bR := bR.cell1
  have lt_bR := bR.lt
  go_wp2_with fail
  refine (Add_is _ _ A gone m 0 AB gone _ _ _ x1 x2 (by rw [HNl.out, IL.out]; omega) (by omega) K2.out Q1.out P1.out rfl rfl).mono ?_; rintro e w8 ⟨⟨a5, c5, a6, c6, rfl, u1, u2⟩, hb⟩
  clear c0_bA c1_bA lt_bA c0_bR c1_bR lt_bR
  replace hB := bel_stp hB hb
  replace rl := rl.stp hb
  replace rg := rg.stp hb
  replace bR := bR.stp hb
  replace x1 := x1.stp hb
  replace x2 := x2.stp hb
  replace bA := bA.stp hb
  clear hb
  have bM := Duo.new w8 24 (.slice a5 AB.length c5) (.slice a6 gone.length c6)
  have c0_bA := bA.cell0
  have c1_bA := bA.cell1
  have lt_bA := bA.lt
  have c0_bR := bR.cell0
  have c1_bR := bR.cell1
  have lt_bR := bR.lt
  go_wp2_with fail
  refine (Add_is _ _ live gone m 0 B gone _ _ _ (rl.alloc _) (rg.alloc _) (by omega) (by omega) K2.out Q2.out P2.out rfl rfl).mono ?_; rintro e w9 ⟨⟨a7, c7, a8, c8, rfl, y1, y2⟩, hb⟩
  clear c0_bA c1_bA lt_bA c0_bR c1_bR lt_bR
  replace hB := bel_stp (bel_alloc hB _) hb
  replace rl := (rl.alloc _).stp hb
  replace rg := (rg.alloc _).stp hb
  replace bR := (bR.alloc _).stp hb
  replace x1 := (x1.alloc _).stp hb
  replace x2 := (x2.alloc _).stp hb
  replace bA := (bA.alloc _).stp hb
  replace u1 := (u1.alloc _).stp hb
  replace u2 := (u2.alloc _).stp hb
  replace bM := bM.stp hb
  clear hb
  have bB := Duo.new w9 24 (.slice a7 B.length c7) (.slice a8 gone.length c8)
  have c0_bB := bB.cell0
  have c1_bB := bB.cell1
  have lt_bB := bB.lt
  have c0_bR := bR.cell0
  have c1_bR := bR.cell1
  have lt_bR := bR.lt
  go_wp2_with fail
  refine (Add_is _ _ B gone n 0 AB gone _ _ _ (y1.alloc _) (y2.alloc _) (by omega) (by omega) K1.out Q3.out P3.out rfl rfl).mono ?_; rintro e w10 ⟨⟨a9, c9, a10, c10, rfl, s1, s2⟩, hb⟩
  clear c0_bB c1_bB lt_bB c0_bR c1_bR lt_bR
  replace hB := bel_stp (bel_alloc hB _) hb
  replace rl := (rl.alloc _).stp hb
  replace rg := (rg.alloc _).stp hb
  replace bR := (bR.alloc _).stp hb
  replace x1 := (x1.alloc _).stp hb
  replace x2 := (x2.alloc _).stp hb
  replace bA := (bA.alloc _).stp hb
  replace u1 := (u1.alloc _).stp hb
  replace u2 := (u2.alloc _).stp hb
  replace bM := (bM.alloc _).stp hb
  replace y1 := (y1.alloc _).stp hb
  replace y2 := (y2.alloc _).stp hb
  replace bB := bB.stp hb
  clear hb
  have bN := Duo.new w10 24 (.slice a9 AB.length c9) (.slice a10 gone.length c10)
  have c0_bM := bM.cell0
  have c1_bM := bM.cell1
  have lt_bM := bM.lt
  have c0_bN := bN.cell0
  have c1_bN := bN.cell1
  have lt_bN := bN.lt
  go_wp2_with fail
  refine (RSame_any _ _ _ _ AB gone AB gone _ (u1.alloc _) (u2.alloc _) (s1.alloc _) (s2.alloc _) (by omega) (by omega) (by omega) (by omega)).mono ?_; rintro e w11 ⟨rfl, hb⟩
  clear c0_bM c1_bM lt_bM c0_bN c1_bN lt_bN
  replace hB := bel_stp (bel_alloc hB _) hb
  replace rl := (rl.alloc _).stp hb
  replace rg := (rg.alloc _).stp hb
  replace bR := (bR.alloc _).stp hb
  replace x1 := (x1.alloc _).stp hb
  replace x2 := (x2.alloc _).stp hb
  replace bA := (bA.alloc _).stp hb
  replace u1 := (u1.alloc _).stp hb
  replace u2 := (u2.alloc _).stp hb
  replace bM := (bM.alloc _).stp hb
  replace y1 := (y1.alloc _).stp hb
  replace y2 := (y2.alloc _).stp hb
  replace bB := (bB.alloc _).stp hb
  replace s1 := (s1.alloc _).stp hb
  replace s2 := (s2.alloc _).stp hb
  replace bN := bN.stp hb
  clear hb
  simp only [decide_true, Bool.and_self]
  go_wp2_with fail
  go_ret
  exact ⟨rfl, hB⟩
end Go.Proofs.Ytconpdliadhahaa
