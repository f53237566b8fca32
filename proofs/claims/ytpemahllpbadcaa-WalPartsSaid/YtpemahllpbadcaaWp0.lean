/-
  The walk over WalParts.
-/
import Derived.Test.YtpemahllpbadcaaFe0
import Derived.Test.YtpemahllpbadcaaWy
import Derived.Test.YtpemahllpbadcaaWq
import Derived.Test.YtpemahllpbadcaaRb
namespace Go.Proofs.Ytpemahllpbadcaa
open Go.RowKit

set_option maxRecDepth 100000 in
set_option maxHeartbeats 4000000 in
theorem WalParts_any (v0 : Value) (la : List (List Int)) (v9 : Value) (x0 : List Int × List Int) (w : World) (h : RwsUp w v0 la) (h' : Sto w v9 x0) :
    Calls Try.prog 10 #[v0, v9] w fun e w' => e = .returned (.bool true) ∧ Below w.heap.size w w' := by
  obtain ⟨rA, hra⟩ := h
  have HRa := Lib.hid hra
  obtain ⟨aA, cA, rfl, hAc, -⟩ := rA.shape
  clear hra
  obtain ⟨S, O⟩ := x0
  obtain ⟨v1, v2, rfl, rS, rO⟩ := h'
  simp only at rS rO
  obtain ⟨j0, gi, gz0, gz1, gz2⟩ := info_parts info_byte20
  obtain ⟨i0, hi, hz0, hz1, hz2⟩ := info_parts info_row20
  obtain ⟨a1, c1, rfl⟩ := rS.shape S.length rfl
  obtain ⟨a2, c2, rfl⟩ := rO.shape O.length rfl
  have hB := Below.refl w.heap.size w
  go_enter Try.func10, Try.ntmps10
  have dS := Duo.new w 24 (.slice a1 S.length c1) (.slice a2 O.length c2)
  go_wp2_with fail
  refine (live_true _).mono ?_; rintro e w1 ⟨rfl, hb⟩
  replace hB := bel_stp (bel_alloc hB _) hb
  replace rS := (rS.alloc _).stp hb
  replace rO := (rO.alloc _).stp hb
  replace rA := (rA.alloc _).stp hb
  replace dS := dS.stp hb
  clear hb
  go_wp2_with fail
  refine (FewAll_any _ la _ rA HRa.out).mono ?_; rintro e _ ⟨rfl, rfl⟩
  by_cases c : la.length ≤ 20 ∧ rooms la ≤ 2000
  case neg =>
    rw [decide_eq_false c]
    go_wp2_with fail
    go_ret
    exact ⟨rfl, hB⟩
  rw [decide_eq_true c]
  have c0_dS := dS.cell0
  have c1_dS := dS.cell1
  have lt_dS := dS.lt
  go_wp2_with fail
  refine (Few_any _ _ S O _ rS rO).mono ?_; rintro e w2 ⟨rfl, hb⟩
  clear c0_dS c1_dS lt_dS
  replace hB := bel_stp hB hb
  replace rS := rS.stp hb
  replace rO := rO.stp hb
  replace rA := rA.stp hb
  replace dS := dS.stp hb
  clear hb
  by_cases c2 : S.length ≤ 3000 ∧ O.length ≤ 3000
  case neg =>
    rw [decide_eq_false c2]
    go_wp2_with fail
    go_ret
    exact ⟨rfl, hB⟩
  rw [decide_eq_true c2]
  obtain ⟨n1, n2⟩ := c2
  have bla : la.length ≤ 20 := c.1
  obtain ⟨fa1, fa2, fa3, fa4⟩ := few_facts _ c
  obtain ⟨FA, hFA⟩ : ∃ FA, Wm.frames la = FA := ⟨_, rfl⟩
  rw [hFA] at fa2 fa3 fa4
  obtain ⟨A, hA⟩ : ∃ A, S ++ O = A := ⟨_, rfl⟩
  have bA : A.length ≤ 6000 := by rw [← hA]; simp; omega
  have hAb : ∀ x ∈ A, byte x := by
    intro x hx
    rw [← hA] at hx
    rcases List.mem_append.1 hx with h | h
    · exact rS.all_byte x h
    · exact rO.all_byte x h
  obtain ⟨gd, hG⟩ : ∃ gd, Wm.good A = gd := ⟨_, rfl⟩
  obtain ⟨L, hL⟩ : ∃ L, Wm.read A = L := ⟨_, rfl⟩
  have bL : L.length ≤ 6000 := by rw [← hL]; have := read_len A; omega
  have bG : gd ≤ 6000 := by rw [← hG]; have := Wm.good_le A; omega
  have hr := Wm.read_append FA A fa4
  rw [fa3, hL, hG] at hr
  obtain ⟨LL, hLL⟩ : ∃ LL, la ++ L = LL := ⟨_, rfl⟩
  have bLL : LL.length ≤ 7000 := by rw [← hLL]; simp; omega
  rw [hLL] at hr
  have HAb := Lib.hid hAb; have HA := Lib.hid hA; have HL := Lib.hid hL; have HG := Lib.hid hG; have HRD := Lib.hid hr; have HLL := Lib.hid hLL; have HFA := Lib.hid hFA; have HA1 := Lib.hid fa1
  clear hA hAb hL hG hr hLL hFA fa1 fa3 fa4 c
  go_wp2_with fail
  refine (put_ok _ _ _ [] [] la _ (Row.nil _ _) (Row.nil _ _) rA (by decide) (by rw [HFA.out]; simp; omega) HA1.out (by omega) good_none).mono ?_; rintro e w3 ⟨x1, x2, rfl, rP, rQ, hb⟩
  replace hB := bel_stp hB hb
  replace rS := rS.stp hb
  replace rO := rO.stp hb
  replace rA := rA.stp hb
  replace dS := dS.stp hb
  clear hb
  rw [HFA.out, List.nil_append] at rQ
  obtain ⟨aP, cP, rfl⟩ := rP.shape 0 rfl
  obtain ⟨aQ, cQ, rfl⟩ := rQ.shape FA.length rfl
  have dP := Duo.new w3 24 (.slice aP 0 cP) (.slice aQ FA.length cQ)
  have c0_dS := dS.cell0
  have c1_dS := dS.cell1
  have lt_dS := dS.lt
  go_wp2_with fail
  refine (Read_any _ _ S O _ (rS.alloc _) (rO.alloc _) (by omega) (by omega)).mono ?_; rintro e w4 ⟨rm, rfl, rM, hb⟩
  clear c0_dS c1_dS lt_dS
  replace hB := bel_stp (bel_alloc hB _) hb
  replace rS := (rS.alloc _).stp hb
  replace rO := (rO.alloc _).stp hb
  replace rA := (rA.alloc _).stp hb
  replace dS := (dS.alloc _).stp hb
  replace rP := (rP.alloc _).stp hb
  replace rQ := (rQ.alloc _).stp hb
  replace dP := dP.stp hb
  clear hb
  rw [HA.out, HL.out] at rM
  rw [HA.out, HG.out]
  obtain ⟨aM, cM, rfl, -, -⟩ := rM.shape
  go_wp2_with fail
  generalize hgs : w.heap.size = gs at *
  generalize hgp : w3.heap.size = gp at *
  have hgs' := Lib.hid hgs
  clear hgp
  have c0 := dS.cell0
  have c1' := dS.cell1
  have c2' := dP.cell0
  have c3' := dP.cell1
  have ltS := dS.lt
  have ltP := dP.lt
  have m1 : ¬ gs = w4.heap.size := by omega
  have m2 : ¬ w4.heap.size = gs := by omega
  have m3 : ¬ gp = w4.heap.size := by omega
  have m4 : ¬ w4.heap.size = gp := by omega
  have m5 : ¬ gs = w4.heap.size + 1 := by omega
  have m6 : ¬ w4.heap.size + 1 = gs := by omega
  have m7 : ¬ gp = w4.heap.size + 1 := by omega
  have m8 : ¬ w4.heap.size + 1 = gp := by omega
  have hw0 : Below w4.heap.size w4 w4 := Below.refl _ _
  go_region_held3 (fun w' => w'.cell? ⟨gs, 0, none⟩ = some (.slice a1 S.length c1) ∧ w'.cell? ⟨gs, 1, none⟩ = some (.slice a2 O.length c2) ∧ w'.cell? ⟨gp, 1, none⟩ = some (.slice aQ FA.length cQ))
    (first | go_keep | (refine ⟨?_, ?_, ?_⟩ <;> assumption))
    (first
      | (rw [if_pos (by rfl)]; refine wp_append_bytes (w0 := w4) (.tmp 35) (.tmp 37) 22 rfl 5 j0 (.int .u8 0) Try.underlying22 gi gz0 gz1 gz2 rfl (by repeat (first | with_reducible exact hw0 | refine bel_drew ?_ | refine bel_alloc ?_ _)) _ [] rfl (by first | exact owns_empty _ _ _ (by simp) | exact (owns_empty _ _ _ (by simp)).alloc _ | exact owns_empty' _ _ _ _ (by simp) (by simp)) _ S rS rfl (by first | omega | (simp; done) | (simp; omega)) ?_; intro va wa oa ba za da; rw [List.nil_append] at oa; obtain ⟨aa, ca, rfl, ra, pa⟩ := row_of_owned oa rS.all_byte; have e5 := (dS.stp ba).cell0; have e6 := (dS.stp ba).cell1; have e7 := (dP.stp ba).cell0; have e8 := (dP.stp ba).cell1; have sza := ba.size; have n1wa : ¬ gs = wa.heap.size := (by omega); have n2wa : ¬ wa.heap.size = gs := (by omega); have n3wa : ¬ gp = wa.heap.size := (by omega); have n4wa : ¬ wa.heap.size = gp := (by omega); (first | (have zz := da w4.heap.size 24 (.slice none 0 0) (.slice none 0 0) (by decide) (Duo.alloc (Duo.drew (Duo.new w4 24 (.slice none 0 0) (.slice none 0 0))) _)) | (have zz := da (w4.heap.size + 1) 24 (.slice none 0 0) (.slice none 0 0) (by decide) (Duo.new' _ _ _ _ _ (by simp))) | (have zz := da (w4.heap.size + 1) 24 (.slice none 0 0) (.slice none 0 0) (by decide) (Duo.drew (Duo.new' _ _ _ _ _ (by simp)))) | skip); (first | (have y0 := zz.cell0; have y1 := zz.cell1; have y2 := zz.free 0; have y3 := zz.free 1) | skip))
      | (rw [if_pos (by rfl)]; refine wp_append_bytes (w0 := w4) (.tmp 38) (.tmp 40) 22 rfl 5 j0 (.int .u8 0) Try.underlying22 gi gz0 gz1 gz2 rfl (by first | exact ba | exact bel_alloc ba _) _ S rfl (by first | exact oa | exact oa.alloc _) _ O rO rfl (by first | omega | (simp; done) | (simp; omega)) ?_; intro vb wb ob bb zb db; rw [HA.out] at ob; obtain ⟨ab, cb, rfl, rb, pb⟩ := row_of_owned ob HAb.out; have e9 := (dS.stp bb).cell0; have f6 := (dS.stp bb).cell1; have f7 := (dP.stp bb).cell0; have f8 := (dP.stp bb).cell1; have szb := bb.size; have n1wb : ¬ gs = wb.heap.size := (by omega); have n2wb : ¬ wb.heap.size = gs := (by omega); have n3wb : ¬ gp = wb.heap.size := (by omega); have n4wb : ¬ wb.heap.size = gp := (by omega); (first | (have zz2 := db _ 24 (.slice none 0 0) (.slice none 0 0) (by decide) zz; have oz := own_off ob zz2 (by decide)) | (have zz2 := db wa.heap.size 24 (.slice none 0 0) (.slice none 0 0) (by decide) (Duo.new wa 24 (.slice none 0 0) (.slice none 0 0)); have oz := own_off ob zz2 (by decide)) | skip); (first | (have y4 := zz2.cell0; have y5 := zz2.cell1; have y6 := zz2.free 0; have y7 := zz2.free 1) | skip)))
  all_goals
    clear c0 c1' c2' c3' ltS ltP m1 m2 m3 m4 m5 m6 m7 m8 hw0 e5 e6 e7 e8 n1wa n2wa n3wa n4wa n1wb n2wb n3wb n4wb e9 f6 f7 f8 za da zb db oa ob pa pb ra
    (try clear y0 y1 y2 y3)
    (try clear y4 y5 y6 y7)
    have hBs : gs = w.heap.size := hgs'.out.symm
    subst hBs
    clear hgs'
    first
      | (have dX : Duo _ wa.heap.size 24 _ _ := (zz2.set0 (.slice aQ FA.length cQ)).set1 (.slice ab A.length cb)
         have hb := bel_set (bel_set bb (p := ⟨wa.heap.size, 0, none⟩) (by simp <;> omega) (.slice aQ FA.length cQ)) (p := ⟨wa.heap.size, 1, none⟩) (by simp <;> omega) (.slice ab A.length cb)
         replace rb := (Row.aside rb (p := ⟨wa.heap.size, 0, none⟩) oz (.slice aQ FA.length cQ)).aside (p := ⟨wa.heap.size, 1, none⟩) oz (.slice ab A.length cb)
         replace hB := bel_stp hB hb
         replace rS := rS.stp hb
         replace rO := rO.stp hb
         replace rA := rA.stp hb
         replace dS := dS.stp hb
         replace rP := rP.stp hb
         replace rQ := rQ.stp hb
         replace dP := dP.stp hb
         replace rM := rM.stp hb
         clear hb
         generalize hX1 : World.setCell (World.setCell wb ⟨wa.heap.size, 0, none⟩ (.slice aQ FA.length cQ)) ⟨wa.heap.size, 1, none⟩ (.slice ab A.length cb) = W1 at *
         generalize hg1 : wa.heap.size = gx at *
         clear hX1 hg1)
      | (have dX : Duo _ (w4.heap.size + 1) 24 _ _ := (zz2.set0 (.slice aQ FA.length cQ)).set1 (.slice ab A.length cb)
         have hb := bel_set (bel_set bb (p := ⟨(w4.heap.size + 1), 0, none⟩) (by simp <;> omega) (.slice aQ FA.length cQ)) (p := ⟨(w4.heap.size + 1), 1, none⟩) (by simp <;> omega) (.slice ab A.length cb)
         replace rb := (Row.aside rb (p := ⟨(w4.heap.size + 1), 0, none⟩) oz (.slice aQ FA.length cQ)).aside (p := ⟨(w4.heap.size + 1), 1, none⟩) oz (.slice ab A.length cb)
         replace hB := bel_stp hB hb
         replace rS := rS.stp hb
         replace rO := rO.stp hb
         replace rA := rA.stp hb
         replace dS := dS.stp hb
         replace rP := rP.stp hb
         replace rQ := rQ.stp hb
         replace dP := dP.stp hb
         replace rM := rM.stp hb
         clear hb
         generalize hX1 : World.setCell (World.setCell wb ⟨(w4.heap.size + 1), 0, none⟩ (.slice aQ FA.length cQ)) ⟨(w4.heap.size + 1), 1, none⟩ (.slice ab A.length cb) = W1 at *
         generalize hg1 : (w4.heap.size + 1) = gx at *
         clear hX1 hg1)
      | (have dX : Duo _ w4.heap.size 24 _ _ := (zz2.set0 (.slice aQ FA.length cQ)).set1 (.slice ab A.length cb)
         have hb := bel_set (bel_set bb (p := ⟨w4.heap.size, 0, none⟩) (by simp <;> omega) (.slice aQ FA.length cQ)) (p := ⟨w4.heap.size, 1, none⟩) (by simp <;> omega) (.slice ab A.length cb)
         replace rb := (Row.aside rb (p := ⟨w4.heap.size, 0, none⟩) oz (.slice aQ FA.length cQ)).aside (p := ⟨w4.heap.size, 1, none⟩) oz (.slice ab A.length cb)
         replace hB := bel_stp hB hb
         replace rS := rS.stp hb
         replace rO := rO.stp hb
         replace rA := rA.stp hb
         replace dS := dS.stp hb
         replace rP := rP.stp hb
         replace rQ := rQ.stp hb
         replace dP := dP.stp hb
         replace rM := rM.stp hb
         clear hb
         generalize hX1 : World.setCell (World.setCell wb ⟨w4.heap.size, 0, none⟩ (.slice aQ FA.length cQ)) ⟨w4.heap.size, 1, none⟩ (.slice ab A.length cb) = W1 at *
         generalize hg1 : w4.heap.size = gx at *
         clear hX1 hg1)
      | (have dX := Duo.new wb 24 (.slice aQ FA.length cQ) (.slice ab A.length cb)
         have hb := bel_alloc bb (.cells #[(.slice aQ FA.length cQ), (.slice ab A.length cb)] 24)
         replace rb := rb.alloc (.cells #[(.slice aQ FA.length cQ), (.slice ab A.length cb)] 24)
         replace hB := bel_stp hB hb
         replace rS := rS.stp hb
         replace rO := rO.stp hb
         replace rA := rA.stp hb
         replace dS := dS.stp hb
         replace rP := rP.stp hb
         replace rQ := rQ.stp hb
         replace dP := dP.stp hb
         replace rM := rM.stp hb
         clear hb
         generalize hX1 : World.alloc wb (.cells #[(.slice aQ FA.length cQ), (.slice ab A.length cb)] 24) = W1 at *
         generalize hg1 : wb.heap.size = gx at *
         clear hX1 hg1)
    have c0_dX := dX.cell0
    have c1_dX := dX.cell1
    have lt_dX := dX.lt
    go_wp2_with fail
    refine (Read_any _ _ FA A _ rQ rb (by omega) (by omega)).mono ?_; rintro e w5 ⟨r1, rfl, rN, hb⟩
    clear c0_dX c1_dX lt_dX
    replace hB := bel_stp hB hb
    replace rS := rS.stp hb
    replace rO := rO.stp hb
    replace rA := rA.stp hb
    replace dS := dS.stp hb
    replace rP := rP.stp hb
    replace rQ := rQ.stp hb
    replace dP := dP.stp hb
    replace rM := rM.stp hb
    replace dX := dX.stp hb
    replace rb := rb.stp hb
    clear hb
    rw [HRD.out.1] at rN
    rw [HRD.out.2]
    obtain ⟨aN, cN, rfl, -, -⟩ := rN.shape
    have c0_dP := dP.cell0
    have c1_dP := dP.cell1
    have lt_dP := dP.lt
    have hw0 : Below w5.heap.size w5 w5 := Below.refl _ _
    have ew : IntKind.i64.wrap ((FA.length : Int) + gd) = (FA.length : Int) + gd := IntWalk.i64_in _ (by omega)
    go_wp2_with (first
        | (at_builtin; (go_big_want; refine wp_append_rws (w0 := w5) (.tmp 51) (.tmp 52) 34 rfl 22 i0 (.slice none 0 0) Try.underlying34 hi hz0 hz1 hz2 rfl .u8 (hw0.alloc (Nat.le_refl _) _) _ _ [] rfl (owns_empty w5 w5.heap.size 22 (Nat.le_refl _)) (Vals.nil _ _) _ la (rA.at' (hw0.alloc (Nat.le_refl _) _)) rfl (by first | omega | (simp; done) | (simp; omega)) ?_; intro va wa ya oa xa ba; rw [List.nil_append] at oa xa))
        | (at_builtin; (go_big_want; refine wp_append_rws (w0 := w5) (.tmp 53) (.tmp 54) 34 rfl 22 i0 (.slice none 0 0) Try.underlying34 hi hz0 hz1 hz2 rfl .u8 ba _ _ la rfl oa xa _ L (rM.at' ba) rfl (by first | omega | (simp; done) | (simp; omega)) ?_; intro vb wd yb od xd bd; rw [HLL.out] at od xd; obtain ⟨aF, cF, rfl, hFc, -⟩ := (Rws.of_vals od xd bd).shape; have rF := Rws.of_vals od xd bd; have dPb := dP.stp bd; have d0 := dPb.cell0; have d1 := dPb.cell1; have d2 := dPb.lt))
        | (go_at_call 26; refine (Lists_yes _ _ LL LL _ (rN.below bd) rF rfl (by omega)).mono ?_; rintro e wz ⟨rfl, hb⟩; have hBz := bel_stp (hB.trans (bd.mono hB.size)) hb; have dPz := dPb.stp hb; have e0 := dPz.cell0; have e1 := dPz.cell1; have e2 := dPz.lt)
        | fail)
    go_ret
    exact ⟨rfl, hBz⟩
end Go.Proofs.Ytpemahllpbadcaa
