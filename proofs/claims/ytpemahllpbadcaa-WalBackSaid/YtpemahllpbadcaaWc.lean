/-
  The walk over WalBack.
-/
import Derived.Test.YtpemahllpbadcaaWt
import Derived.Test.YtpemahllpbadcaaWo
import Derived.Test.YtpemahllpbadcaaWq
import Derived.Test.YtpemahllpbadcaaFe0
namespace Go.Proofs.Ytpemahllpbadcaa
open Go.RowKit

set_option maxRecDepth 100000 in
set_option maxHeartbeats 4000000 in
theorem WalBack_any (v0 : Value) (ls : List (List Int)) (sync : Int) (w : World) (h : RwsUp w v0 ls) (hk : (Lit.int .i64 sync).wf = true) :
    Calls Try.prog 6 #[v0, .int .i64 sync] w fun e w' => e = .returned (.bool true) ∧ Below w.heap.size w w' := by
  obtain ⟨rL, hre⟩ := h
  have HRe := Lib.hid hre
  obtain ⟨aL, cL, rfl, hLc, hcm⟩ := rL.shape
  clear hre
  have hB := Below.refl w.heap.size w
  go_enter Try.func6, Try.ntmps6
  go_wp2_with fail
  refine (live_true _).mono ?_; rintro e w1 ⟨rfl, hb⟩
  replace hB := bel_stp hB hb
  replace rL := rL.stp hb
  clear hb
  go_wp2_with fail
  refine (FewAll_any _ ls _ rL HRe.out).mono ?_; rintro e _ ⟨rfl, rfl⟩
  by_cases c : ls.length ≤ 20 ∧ rooms ls ≤ 2000
  case neg =>
    rw [decide_eq_false c]
    go_wp2_with fail
    go_ret
    exact ⟨rfl, hB⟩
  rw [decide_eq_true c]
  by_cases g1 : sync < 0
  case pos =>
    go_wp2_with fail
    go_ret
    exact ⟨rfl, hB⟩
  obtain ⟨m, rfl⟩ : ∃ n : Nat, sync = n := ⟨sync.toNat, by omega⟩
  obtain ⟨K, hK⟩ : ∃ K, m % (ls.length + 1) = K := ⟨_, rfl⟩
  have hKn : K ≤ ls.length := by rw [← hK]; have := Nat.mod_lt m (show 0 < ls.length + 1 by omega); omega
  have bls : ls.length ≤ 20 := c.1
  obtain ⟨fa1, fa2, fa3, fa4⟩ := few_facts _ (few_take ls K c)
  obtain ⟨fb1, fb2, fb3, fb4⟩ := few_facts _ (few_drop ls K c)
  obtain ⟨LA, hLA⟩ : ∃ LA, ls.take K = LA := ⟨_, rfl⟩
  obtain ⟨LB, hLB⟩ : ∃ LB, ls.drop K = LB := ⟨_, rfl⟩
  have hAB : LA ++ LB = ls := by rw [← hLA, ← hLB]; exact List.take_append_drop K ls
  have nLA : LA.length = K := by rw [← hLA]; simp; omega
  have nLB : LB.length = ls.length - K := by rw [← hLB]; simp
  have rA := rL.take K hKn
  rw [hLA] at rA fa1 fa2 fa3 fa4
  rw [hLB] at fb1 fb2 fb3 fb4
  obtain ⟨FA, hFA⟩ : ∃ FA, Wm.frames LA = FA := ⟨_, rfl⟩
  obtain ⟨FB, hFB⟩ : ∃ FB, Wm.frames LB = FB := ⟨_, rfl⟩
  have hr := Wm.read_append FA FB (by rw [← hFA]; exact fa4)
  rw [hFA] at fa2 fa3 fa4
  rw [hFB] at fb2 fb3 fb4
  rw [fa3, fb3, fb4, hAB] at hr
  have HRD := Lib.hid hr; have HA1 := Lib.hid fa1; have HB1 := Lib.hid fb1; have HA4 := Lib.hid fa4; have HC := Lib.hid c; have HAB := Lib.hid hAB; have HFA := Lib.hid hFA; have HFB := Lib.hid hFB; have HLB := Lib.hid hLB; have NLB := Lib.hid nLB; have NLA := Lib.hid nLA
  have eR : IntKind.i64.wrap ((ls.length : Int) + 1) = (ls.length : Int) + 1 := IntWalk.i64_in _ (by omega)
  have eT : Int.tmod (m : Int) ((ls.length : Int) + 1) = (K : Int) := by rw [← hK]; rfl
  have bA : LA.length ≤ 20 := by omega
  have bB : LB.length ≤ 20 := by omega
  have kc : (K : Int) ≤ (cL : Int) := by omega
  clear hr fa1 fb1 fa3 fb3 fa4 fb4 c hAB hFA hFB hLA hLB hK nLB nLA hk hcm
  go_wp2_with fail
  refine (put_ok _ _ _ [] [] LA _ (Row.nil _ _) (Row.nil _ _) rA (by decide) (by rw [HFA.out]; simp; omega) HA1.out (by omega) good_none).mono ?_; rintro e w2 ⟨x1, x2, rfl, rX, rY, hb⟩
  replace hB := bel_stp hB hb
  replace rL := rL.stp hb
  replace rA := rA.stp hb
  clear hb
  rw [HFA.out, List.nil_append] at rY
  obtain ⟨aX, cX, rfl⟩ := rX.shape 0 rfl
  obtain ⟨aY, cY, rfl⟩ := rY.shape FA.length rfl
  clear rA
  have dA := Duo.new w2 24 (.slice aX 0 cX) (.slice aY FA.length cY)
  go_wp2_with fail
  refine (Sync_of _ _ [] FA FA _ (rX.alloc _) (rY.alloc _) (by simp; omega) rfl).mono ?_; rintro e w3 ⟨aS, cS, rfl, rS, hfar, hb⟩
  replace hB := bel_stp (bel_alloc hB _) hb
  replace rL := (rL.alloc _).stp hb
  replace rX := (rX.alloc _).stp hb
  replace rY := (rY.alloc _).stp hb
  replace dA := dA.stp hb
  clear hb
  clear hfar
  have dB := Duo.new w3 24 (.slice aS FA.length cS) (.slice none 0 0)
  go_wp2_with fail
  replace hB := bel_alloc hB (.cells #[(.slice aS FA.length cS), (.slice none 0 0)] 24)
  replace rL := rL.alloc (.cells #[(.slice aS FA.length cS), (.slice none 0 0)] 24)
  replace rX := rX.alloc (.cells #[(.slice aS FA.length cS), (.slice none 0 0)] 24)
  replace rY := rY.alloc (.cells #[(.slice aS FA.length cS), (.slice none 0 0)] 24)
  replace dA := dA.alloc (.cells #[(.slice aS FA.length cS), (.slice none 0 0)] 24)
  replace rS := rS.alloc (.cells #[(.slice aS FA.length cS), (.slice none 0 0)] 24)
  generalize hV_V : World.alloc w3 (.cells #[(.slice aS FA.length cS), (.slice none 0 0)] 24) = V at *
  generalize hg_V : w3.heap.size = gb at *
  clear hV_V hg_V
  by_cases q : cL = K
  case' pos => subst q; have rD := rL.cut_all cL hKn (by omega); rw [show ls.length - cL = 0 by omega] at rD
  case' neg => have rD := rL.cut K hKn (by omega)
  all_goals
    rw [HLB.out] at rD
    have bd := dB.drew
    have rS_d := rS.drew
    have rD_d := rD.drew
    have c0 := dB.cell0
    have c1 := dB.cell1
    have ltV := dB.lt
    have nV1 : ¬ gb = V.heap.size := by omega
    have nV2 : ¬ V.heap.size = gb := by omega
    go_region_held3 (fun w' => w'.cell? ⟨gb, 0, none⟩ = some (.slice aS FA.length cS) ∧ w'.cell? ⟨gb, 1, none⟩ = some (.slice none 0 0))
      (first | go_keep | (refine ⟨?_, ?_⟩ <;> assumption))
      (first
        | (go_at_call 28
           refine (put_far _ _ _ FA [] LB _ (by first | exact rS_d | exact (rS.alloc _).drew) (Row.nil _ _) (by first | exact rD_d | exact (rD.alloc _).drew) (by omega) (by rw [HFB.out]; simp; omega) HB1.out (by omega) (by rw [List.append_nil]; exact HA4.out)).mono ?_
           rintro e w4 ⟨y1, y2, rfl, rU, rW, hoff, hb⟩
           have st : Stp _ w4 := hb
           first | (have hVW := bel_stp (bel_drew (Below.refl V.heap.size V)) hb) | (have hVW := bel_stp (bel_drew (bel_alloc (Below.refl V.heap.size V) _)) hb)
           first | (have bw := bd.stp hb) | (have bw := (dB.alloc _).drew.stp hb)
           rw [HFB.out, List.nil_append] at rW
           obtain ⟨aU, cU, rfl⟩ := rU.shape FA.length rfl
           obtain ⟨aW, cW, rfl⟩ := rW.shape FB.length rfl
           have c0w := bw.cell0
           have c1w := bw.cell1
           have ltW := bw.lt
           have nW1 : ¬ gb = w4.heap.size := by omega
           have nW2 : ¬ w4.heap.size = gb := by omega
           clear hb
           first | (have zz : Duo w4 V.heap.size 24 (.slice none 0 0) (.slice none 0 0) := ?_; rotate_left; (focus (refine Duo.stp ?_ st; refine Duo.drew ?_; refine Duo.new' _ _ _ _ _ ?_; rfl)); have z0 := zz.cell0; have z1 := zz.cell1; have z2 := zz.free 0; have z3 := zz.free 1) | skip))
    all_goals
      clear c0 c1 ltV nV1 nV2 c0w c1w ltW nW1 nW2 bd bw st rS_d rD_d
      first
        | (have hoff := hoff V.heap.size (by simp) (rS.off (Nat.le_refl _)) (Off.nil _ _ _)
           have off_rU := hoff.1
           have off_rW := hoff.2
           clear hoff
           have dC := (zz.set0 (.slice aU FA.length cU)).set1 (.slice aW FB.length cW)
           have hb := bel_set (bel_set hVW (p := ⟨V.heap.size, 0, none⟩) (Nat.le_refl _) (.slice aU FA.length cU)) (p := ⟨V.heap.size, 1, none⟩) (Nat.le_refl _) (.slice aW FB.length cW)
           replace rU := (Row.aside rU (p := ⟨V.heap.size, 0, none⟩) off_rU (.slice aU FA.length cU)).aside (p := ⟨V.heap.size, 1, none⟩) off_rU (.slice aW FB.length cW)
           replace rW := (Row.aside rW (p := ⟨V.heap.size, 0, none⟩) off_rW (.slice aU FA.length cU)).aside (p := ⟨V.heap.size, 1, none⟩) off_rW (.slice aW FB.length cW)
           clear zz z0 z1 z2 z3
           replace hB := bel_stp hB hb
           replace rL := rL.stp hb
           replace rX := rX.stp hb
           replace rY := rY.stp hb
           replace dA := dA.stp hb
           replace rS := rS.stp hb
           replace dB := dB.stp hb
           replace rD := rD.stp hb
           clear hb hVW off_rU off_rW
           generalize hX : World.setCell (World.setCell w4 ⟨V.heap.size, 0, none⟩ (.slice aU FA.length cU)) ⟨V.heap.size, 1, none⟩ (.slice aW FB.length cW) = X at *
           generalize hg : V.heap.size = gc at *
           clear hX hg)
        | (clear hoff
           have dC := Duo.new w4 24 (.slice aU FA.length cU) (.slice aW FB.length cW)
           have hb := bel_alloc hVW (.cells #[(.slice aU FA.length cU), (.slice aW FB.length cW)] 24)
           replace rU := rU.alloc (.cells #[(.slice aU FA.length cU), (.slice aW FB.length cW)] 24)
           replace rW := rW.alloc (.cells #[(.slice aU FA.length cU), (.slice aW FB.length cW)] 24)
           replace hB := bel_stp hB hb
           replace rL := rL.stp hb
           replace rX := rX.stp hb
           replace rY := rY.stp hb
           replace dA := dA.stp hb
           replace rS := rS.stp hb
           replace dB := dB.stp hb
           replace rD := rD.stp hb
           clear hb hVW
           generalize hX : World.alloc w4 (.cells #[(.slice aU FA.length cU), (.slice aW FB.length cW)] 24) = X at *
           generalize hg : w4.heap.size = gc at *
           clear hX hg)
      have c0_dC := dC.cell0
      have c1_dC := dC.cell1
      have lt_dC := dC.lt
      go_wp2_with fail
      refine (Read_any _ _ FA FB _ rU rW (by omega) (by omega)).mono ?_; rintro e w5 ⟨rm, rfl, rM, hb⟩
      clear c0_dC c1_dC lt_dC
      replace hB := bel_stp hB hb
      replace rL := rL.stp hb
      replace rX := rX.stp hb
      replace rY := rY.stp hb
      replace dA := dA.stp hb
      replace rS := rS.stp hb
      replace dB := dB.stp hb
      replace rD := rD.stp hb
      replace dC := dC.stp hb
      replace rU := rU.stp hb
      replace rW := rW.stp hb
      clear hb
      rw [HRD.out.1] at rM
      rw [HRD.out.2]
      obtain ⟨aM, cM, rfl, -, -⟩ := rM.shape
      go_wp2_with fail
      refine (Lists_yes _ _ ls ls _ rM rL rfl (by omega)).mono ?_; rintro e w6 ⟨rfl, hb⟩
      replace hB := bel_stp hB hb
      replace rL := rL.stp hb
      replace rX := rX.stp hb
      replace rY := rY.stp hb
      replace dA := dA.stp hb
      replace rS := rS.stp hb
      replace dB := dB.stp hb
      replace rD := rD.stp hb
      replace dC := dC.stp hb
      replace rU := rU.stp hb
      replace rW := rW.stp hb
      replace rM := rM.stp hb
      clear hb
      have c0_dA := dA.cell0
      have c1_dA := dA.cell1
      have lt_dA := dA.lt
      have c0_dB := dB.cell0
      have c1_dB := dB.cell1
      have lt_dB := dB.lt
      have c0_dC := dC.cell0
      have c1_dC := dC.cell1
      have lt_dC := dC.lt
      have e1 : IntKind.i64.wrap ((FA.length : Int) + FB.length) = (FA.length : Int) + FB.length := IntWalk.i64_in _ (by omega)
      go_wp2_with fail
      go_ret
      exact ⟨rfl, hB⟩
end Go.Proofs.Ytpemahllpbadcaa
