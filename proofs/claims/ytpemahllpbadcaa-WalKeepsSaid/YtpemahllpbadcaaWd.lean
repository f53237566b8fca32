/-
  The walk over WalKeeps.
-/
import Derived.Test.YtpemahllpbadcaaFe0
import Derived.Test.YtpemahllpbadcaaWy
import Derived.Test.YtpemahllpbadcaaWq
namespace Go.Proofs.Ytpemahllpbadcaa
open Go.RowKit

theorem Wm.keeps_facts (LA LB : List (List Int)) (FA FB D : List Int) (K : Nat) (hD : FA ++ FB.take K = D) (a1 : Wm.read FA = LA) (a2 : Wm.good FA = FA.length) (b1 : Wm.read FB = LB) :
    LA.length ≤ (Wm.read D).length ∧ (Wm.read D).length ≤ (LA ++ LB).length ∧ Wm.read D = (LA ++ LB).take (Wm.read D).length := by
  have h1 := Wm.read_append FA (FB.take K) a2
  rw [hD, a1] at h1
  have h2 := Wm.read_less (FB.take K) (FB.drop K)
  rw [List.take_append_drop, b1] at h2
  have hp : Wm.read D <+: LA ++ LB := by rw [h1.1]; exact (List.prefix_append_right_inj LA).2 h2.1
  refine ⟨by rw [h1.1]; simp, hp.length_le, List.prefix_iff_eq_take.1 hp⟩

set_option maxRecDepth 100000 in
set_option maxHeartbeats 4000000 in
theorem WalKeeps_any (v0 : Value) (la : List (List Int)) (v1 : Value) (lb : List (List Int)) (keep : Int) (w : World) (h : RwsUp w v0 la) (h' : RwsUp w v1 lb) (_hk : (Lit.int .i64 keep).wf = true) :
    Calls Try.prog 5 #[v0, v1, .int .i64 keep] w fun e w' => e = .returned (.bool true) ∧ Below w.heap.size w w' := by
  obtain ⟨rA, hra⟩ := h
  have HRa := Lib.hid hra
  obtain ⟨aA, cA, rfl, hAc, -⟩ := rA.shape
  clear hra
  obtain ⟨rB, hrb⟩ := h'
  have HRb := Lib.hid hrb
  obtain ⟨aB, cB, rfl, hBc, -⟩ := rB.shape
  clear hrb
  have hB := Below.refl w.heap.size w
  obtain ⟨i0, hi, hz0, hz1, hz2⟩ := info_parts info_row20
  go_enter Try.func5, Try.ntmps5
  go_wp2_with fail
  refine (live_true _).mono ?_; rintro e w1 ⟨rfl, hb⟩
  replace hB := bel_stp hB hb
  replace rA := rA.stp hb
  replace rB := rB.stp hb
  clear hb
  go_wp2_with fail
  refine (FewAll_any _ la _ rA HRa.out).mono ?_; rintro e _ ⟨rfl, rfl⟩
  by_cases c : la.length ≤ 20 ∧ rooms la ≤ 2000
  case neg =>
    rw [decide_eq_false c]
    go_wp2_with fail
    go_ret
    exact ⟨rfl, hB⟩
  rw [decide_eq_true c]
  go_wp2_with fail
  refine (FewAll_any _ lb _ rB HRb.out).mono ?_; rintro e _ ⟨rfl, rfl⟩
  by_cases c2 : lb.length ≤ 20 ∧ rooms lb ≤ 2000
  case neg =>
    rw [decide_eq_false c2]
    go_wp2_with fail
    go_ret
    exact ⟨rfl, hB⟩
  rw [decide_eq_true c2]
  by_cases g1 : keep < 0
  case pos =>
    go_wp2_with fail
    go_ret
    exact ⟨rfl, hB⟩
  obtain ⟨m, rfl⟩ : ∃ n : Nat, keep = n := ⟨keep.toNat, by omega⟩
  have bla : la.length ≤ 20 := c.1
  have blb : lb.length ≤ 20 := c2.1
  obtain ⟨fa1, fa2, fa3, fa4⟩ := few_facts _ c
  obtain ⟨fb1, fb2, fb3, fb4⟩ := few_facts _ c2
  obtain ⟨FA, hFA⟩ : ∃ FA, Wm.frames la = FA := ⟨_, rfl⟩
  obtain ⟨FB, hFB⟩ : ∃ FB, Wm.frames lb = FB := ⟨_, rfl⟩
  rw [hFA] at fa2 fa3 fa4
  rw [hFB] at fb2 fb3 fb4
  obtain ⟨K, hK⟩ : ∃ K, m % (FB.length + 1) = K := ⟨_, rfl⟩
  have hKn : K ≤ FB.length := by rw [← hK]; have := Nat.mod_lt m (show 0 < FB.length + 1 by omega); omega
  obtain ⟨D, hD⟩ : ∃ D, FA ++ FB.take K = D := ⟨_, rfl⟩
  have hDl : D.length ≤ 4800 := by rw [← hD]; simp; omega
  have hkf := Wm.keeps_facts la lb FA FB D K hD fa3 fa4 fb3
  obtain ⟨gd, hG⟩ : ∃ gd, Wm.good D = gd := ⟨_, rfl⟩
  obtain ⟨L, hL⟩ : ∃ L, Wm.read D = L := ⟨_, rfl⟩
  rw [hL] at hkf
  obtain ⟨LL, hLL⟩ : ∃ LL, la ++ lb = LL := ⟨_, rfl⟩
  have bLL : LL.length ≤ 40 := by rw [← hLL]; simp; omega
  rw [hLL] at hkf
  obtain ⟨q1, q2, q3⟩ := hkf
  obtain ⟨X, hX⟩ : ∃ X, D.take (min gd D.length) = X := ⟨_, rfl⟩
  obtain ⟨Y, hY⟩ : ∃ Y, (D.take gd).drop (min gd D.length) = Y := ⟨_, rfl⟩
  obtain ⟨f1, f2, f3, f4, f5, f6, f7⟩ := Wm.fixed_facts D [] D X Y gd (List.append_nil _) hG hX hY
  rw [hL] at f4
  have hgD : gd ≤ D.length := by rw [← hG]; exact Wm.good_le D
  have hXl : X.length = gd := by omega
  have hYn : Y = [] := List.length_eq_zero_iff.1 (by omega)
  have bX : X.length ≤ 4800 := by omega
  have eR : IntKind.i64.wrap ((FB.length : Int) + 1) = (FB.length : Int) + 1 := IntWalk.i64_in _ (by omega)
  have eT : Int.tmod (m : Int) ((FB.length : Int) + 1) = (K : Int) := by rw [← hK]; rfl
  have eN : ¬ ((FB.length : Int) + 1 = 0) := by omega
  have eN' : (((FB.length : Int) + 1) == 0) = false := by rw [beq_eq_false_iff_ne]; exact eN
  have HA1 := Lib.hid fa1; have HB1 := Lib.hid fb1; have HFA := Lib.hid hFA; have HFB := Lib.hid hFB; have HD := Lib.hid hD; have HA4 := Lib.hid fa4; have HL := Lib.hid hL; have HG := Lib.hid hG; have HX := Lib.hid hX; have HY := Lib.hid hY; have Q3 := Lib.hid q3; have HXl := Lib.hid hXl; have HYn := Lib.hid hYn; have F4 := Lib.hid f4; have F5 := Lib.hid f5; have HLL := Lib.hid hLL
  clear fa1 fb1 fa3 fb3 fa4 fb4 c c2 hFA hFB hD hL hG hX hY q3 hXl hYn f1 f2 f3 f4 f5 f6 f7 hLL hK hgD
  go_wp2_with fail
  refine (put_ok _ _ _ [] [] la _ (Row.nil _ _) (Row.nil _ _) rA (by decide) (by rw [HFA.out]; simp; omega) HA1.out (by omega) good_none).mono ?_; rintro e w2 ⟨x1, x2, rfl, rP, rQ, hb⟩
  replace hB := bel_stp hB hb
  replace rA := rA.stp hb
  replace rB := rB.stp hb
  clear hb
  rw [HFA.out, List.nil_append] at rQ
  obtain ⟨aP, cP, rfl⟩ := rP.shape 0 rfl
  obtain ⟨aQ, cQ, rfl⟩ := rQ.shape FA.length rfl
  go_wp2_with fail
  refine (Sync_of _ _ [] FA FA _ (rP.alloc _) (rQ.alloc _) (by simp; omega) rfl).mono ?_; rintro e w3 ⟨aS, cS, rfl, rS, hfar, hb⟩
  replace hB := bel_stp (bel_alloc hB _) hb
  replace rA := (rA.alloc _).stp hb
  replace rB := (rB.alloc _).stp hb
  replace rP := (rP.alloc _).stp hb
  replace rQ := (rQ.alloc _).stp hb
  clear hb
  clear hfar
  clear rP rQ
  go_wp2_with fail
  refine (put_ok _ _ _ FA [] lb _ (rS.alloc _) (Row.nil _ _) (rB.alloc _) (by omega) (by rw [HFB.out]; simp; omega) HB1.out (by omega) (by rw [List.append_nil]; exact HA4.out)).mono ?_; rintro e w4 ⟨x1, x2, rfl, rU, rW, hb⟩
  replace hB := bel_stp (bel_alloc hB _) hb
  replace rA := (rA.alloc _).stp hb
  replace rB := (rB.alloc _).stp hb
  replace rS := (rS.alloc _).stp hb
  clear hb
  rw [HFB.out, List.nil_append] at rW
  obtain ⟨aU, cU, rfl⟩ := rU.shape FA.length rfl
  obtain ⟨aW, cW, rfl⟩ := rW.shape FB.length rfl
  clear rS
  have dC := Duo.new w4 24 (.slice aU FA.length cU) (.slice aW FB.length cW)
  go_wp2_with fail
  replace hB := bel_alloc hB (.cells #[(.slice aU FA.length cU), (.slice aW FB.length cW)] 24)
  replace rA := rA.alloc (.cells #[(.slice aU FA.length cU), (.slice aW FB.length cW)] 24)
  replace rB := rB.alloc (.cells #[(.slice aU FA.length cU), (.slice aW FB.length cW)] 24)
  replace rU := rU.alloc (.cells #[(.slice aU FA.length cU), (.slice aW FB.length cW)] 24)
  replace rW := rW.alloc (.cells #[(.slice aU FA.length cU), (.slice aW FB.length cW)] 24)
  generalize hV_V : World.alloc w4 (.cells #[(.slice aU FA.length cU), (.slice aW FB.length cW)] 24) = V at *
  generalize hg_V : w4.heap.size = gc at *
  clear hV_V hg_V
  have bd := dC.drew
  have rU_d := rU.drew
  have rW_d := rW.drew
  have c0 := dC.cell0
  have c1 := dC.cell1
  have ltV := dC.lt
  have nV1 : ¬ gc = V.heap.size := by omega
  have nV2 : ¬ V.heap.size = gc := by omega
  go_region_held3 (fun w' => w'.cell? ⟨gc, 0, none⟩ = some (.slice aU FA.length cU) ∧ w'.cell? ⟨gc, 1, none⟩ = some (.slice aW FB.length cW))
    (first | go_keep | (refine ⟨?_, ?_⟩ <;> assumption))
    (first
      | (go_at_call 22
         refine (Crash_far _ _ FA FB D K _ (by first | exact rU_d | exact (rU.alloc _).drew) (by first | exact rW_d | exact (rW.alloc _).drew) (by omega) hKn HD.out).mono ?_
         rintro e wd ⟨aD, cD, rfl, rD, hfar, hb⟩
         have st : Stp _ wd := hb
         first | (have hVW := bel_stp (bel_drew (Below.refl V.heap.size V)) hb) | (have hVW := bel_stp (bel_drew (bel_alloc (Below.refl V.heap.size V) _)) hb)
         first | (have bw := bd.stp hb) | (have bw := (dC.alloc _).drew.stp hb)
         have c0w := bw.cell0
         have c1w := bw.cell1
         have ltW := bw.lt
         have nW1 : ¬ gc = wd.heap.size := by omega
         have nW2 : ¬ wd.heap.size = gc := by omega
         clear hb
         first | (have zz : Duo wd V.heap.size 24 (.slice none 0 0) (.slice none 0 0) := ?_; rotate_left; (focus (refine Duo.stp ?_ st; refine Duo.drew ?_; refine Duo.new' _ _ _ _ _ ?_; rfl)); have z0 := zz.cell0; have z1 := zz.cell1; have z2 := zz.free 0; have z3 := zz.free 1) | skip))
  all_goals
    clear c0 c1 ltV nV1 nV2 c0w c1w ltW nW1 nW2 bd bw st rU_d rW_d
    first
      | (have off_rD : Off V.heap.size (.slice aD D.length cD) := fun b o l c e _ => by (injection e with e; have h := hfar b o e; simp at h; omega)
         clear hfar
         have dD := (zz.set0 (.slice aD D.length cD)).set1 (.slice none 0 0)
         have hb := bel_set (bel_set hVW (p := ⟨V.heap.size, 0, none⟩) (Nat.le_refl _) (.slice aD D.length cD)) (p := ⟨V.heap.size, 1, none⟩) (Nat.le_refl _) (.slice none 0 0)
         replace rD := (Row.aside rD (p := ⟨V.heap.size, 0, none⟩) off_rD (.slice aD D.length cD)).aside (p := ⟨V.heap.size, 1, none⟩) off_rD (.slice none 0 0)
         clear zz z0 z1 z2 z3
         replace hB := bel_stp hB hb
         replace rA := rA.stp hb
         replace rB := rB.stp hb
         replace rU := rU.stp hb
         replace rW := rW.stp hb
         replace dC := dC.stp hb
         clear hb hVW off_rD
         generalize hX : World.setCell (World.setCell wd ⟨V.heap.size, 0, none⟩ (.slice aD D.length cD)) ⟨V.heap.size, 1, none⟩ (.slice none 0 0) = XX at *
         generalize hg : V.heap.size = gd' at *
         clear hX hg)
      | (clear hfar
         have dD := Duo.new wd 24 (.slice aD D.length cD) (.slice none 0 0)
         have hb := bel_alloc hVW (.cells #[(.slice aD D.length cD), (.slice none 0 0)] 24)
         replace rD := rD.alloc (.cells #[(.slice aD D.length cD), (.slice none 0 0)] 24)
         replace hB := bel_stp hB hb
         replace rA := rA.stp hb
         replace rB := rB.stp hb
         replace rU := rU.stp hb
         replace rW := rW.stp hb
         replace dC := dC.stp hb
         clear hb hVW
         generalize hX : World.alloc wd (.cells #[(.slice aD D.length cD), (.slice none 0 0)] 24) = XX at *
         generalize hg : wd.heap.size = gd' at *
         clear hX hg)
    have c0_dD := dD.cell0
    have c1_dD := dD.cell1
    have lt_dD := dD.lt
    go_wp2_with fail
    refine (Fix_any _ _ D [] _ rD (Row.nil _ _) (by omega) (by decide)).mono ?_; rintro e w6 ⟨y1, y2, rfl, rX, rY, hb⟩
    clear c0_dD c1_dD lt_dD
    replace hB := bel_stp hB hb
    replace rA := rA.stp hb
    replace rB := rB.stp hb
    replace rU := rU.stp hb
    replace rW := rW.stp hb
    replace dC := dC.stp hb
    replace dD := dD.stp hb
    replace rD := rD.stp hb
    clear hb
    rw [List.append_nil, HG.out] at rX rY
    rw [HX.out] at rX
    rw [HY.out, HYn.out] at rY
    rw [List.append_nil, HG.out]
    generalize ((D.length - gd : Nat) : Int) = lost
    obtain ⟨aX, cX, rfl⟩ := rX.shape X.length rfl
    obtain ⟨aY, cY, rfl⟩ := rY.shape 0 rfl
    have dX := Duo.new w6 24 (.slice aX X.length cX) (.slice aY 0 cY)
    have hx4 : Wm.read (X ++ []) = L := by rw [← HYn.out]; exact F4.out
    have hx5 : Wm.good (X ++ []) = gd := by rw [← HYn.out]; exact F5.out
    have HX4 := Lib.hid hx4; have HX5 := Lib.hid hx5
    clear hx4 hx5
    go_wp2_with fail
    refine (Read_any _ _ X [] _ (rX.alloc _) (rY.alloc _) (by omega) (by decide)).mono ?_; rintro e w7 ⟨rm, rfl, rM, hb⟩
    replace hB := bel_stp (bel_alloc hB _) hb
    replace rA := (rA.alloc _).stp hb
    replace rB := (rB.alloc _).stp hb
    replace rU := (rU.alloc _).stp hb
    replace rW := (rW.alloc _).stp hb
    replace dC := (dC.alloc _).stp hb
    replace dD := (dD.alloc _).stp hb
    replace rD := (rD.alloc _).stp hb
    replace rX := (rX.alloc _).stp hb
    replace rY := (rY.alloc _).stp hb
    replace dX := dX.stp hb
    clear hb
    rw [HX4.out] at rM
    rw [HX5.out]
    obtain ⟨aM, cM, rfl, -, -⟩ := rM.shape
    have c0_dX := dX.cell0
    have c1_dX := dX.cell1
    have lt_dX := dX.lt
    have hw0 : Below w7.heap.size w7 w7 := Below.refl _ _
    have q4 : L.length ≤ LL.length := q2
    go_wp2_with (first
        | (at_builtin; (refine wpList_plain rfl fun Kx hKx => ?_; refine wp_append_rws (w0 := w7) (.tmp 82) (.tmp 83) 34 rfl 22 i0 (.slice none 0 0) Try.underlying34 hi hz0 hz1 hz2 rfl .u8 (hw0.alloc (Nat.le_refl _) _) _ _ [] rfl (owns_empty w7 w7.heap.size 22 (Nat.le_refl _)) (Vals.nil _ _) _ la (rA.at' (hw0.alloc (Nat.le_refl _) _)) rfl (by first | omega | (simp; omega)) ?_; intro va wa ya oa xa ba; rw [List.nil_append] at oa xa; refine hKx _ _ ?_))
        | (at_builtin; (refine wpList_plain rfl fun Kx hKx => ?_; refine wp_append_rws (w0 := w7) (.tmp 84) (.tmp 85) 34 rfl 22 i0 (.slice none 0 0) Try.underlying34 hi hz0 hz1 hz2 rfl .u8 ba _ _ la rfl oa xa _ lb (rB.at' ba) rfl (by first | omega | (simp; omega)) ?_; intro vb wb yb ob xb bb; rw [HLL.out] at ob xb; obtain ⟨aF, cF, rfl, hFc, -⟩ := (Rws.of_vals ob xb bb).shape; have rF := Rws.of_vals ob xb bb; have dXb := dX.stp bb; have d0 := dXb.cell0; have d1 := dXb.cell1; have d2 := dXb.lt; refine hKx _ _ ?_))
        | (go_at_call 26; refine (Lists_yes _ _ _ _ _ (rM.below bb) (rF.take _ q2) Q3.out (by omega)).mono ?_; rintro e wz ⟨rfl, hb⟩; have hBz := bel_stp (hB.trans (bb.mono hB.size)) hb; have dXz := dXb.stp hb; have e0 := dXz.cell0; have e1 := dXz.cell1; have e2 := dXz.lt; have e3 : (X.length : Int) = gd := by rw [HXl.out])
        | fail)
    go_ret
    exact ⟨rfl, hBz⟩
end Go.Proofs.Ytpemahllpbadcaa
