/-
  The walk over WalFixed.
-/
import Derived.Test.YtpemahllpbadcaaWt
import Derived.Test.YtpemahllpbadcaaWo
import Derived.Test.YtpemahllpbadcaaRa
namespace Go.Proofs.Ytpemahllpbadcaa
open Go.RowKit

theorem info_row20 : (Try.prog.info? 22).map (fun i => (i.zero, i.size, i.bytes)) = some (some (.slice none 0 0), 1, 24) := by kernel_rfl

theorem Wm.fixed_facts (S O : List Int) (T X Y : List Int) (G : Nat) (hT : S ++ O = T) (hG : Wm.good T = G) (hX : T.take (min G S.length) = X) (hY : (T.take G).drop (min G S.length) = Y) :
    X ++ Y = T.take G ∧ X.length + Y.length = G ∧ X.length = min G S.length ∧ Wm.read (X ++ Y) = Wm.read T ∧ Wm.good (X ++ Y) = G ∧ (X ++ Y).take (min G X.length) = X ∧ ((X ++ Y).take G).drop (min G X.length) = Y := by
  have hg := Wm.good_le T
  have hTl : T.length = S.length + O.length := by rw [← hT]; simp
  have e : X ++ Y = T.take G := by
    have h := List.take_append_drop (min G S.length) (T.take G)
    rw [List.take_take, Nat.min_eq_left (Nat.min_le_left _ _), hX, hY] at h
    exact h
  have hl : (X ++ Y).length = G := by rw [e]; simp; omega
  have hXl : X.length = min G S.length := by rw [← hX, List.length_take]; omega
  rw [List.length_append] at hl
  refine ⟨e, hl, hXl, ?_, ?_, ?_, ?_⟩
  · rw [e, ← hG]; exact (Wm.read_good T).1
  · rw [e, ← hG]; exact (Wm.read_good T).2
  · rw [show min G X.length = X.length by omega]; simp
  · rw [show min G X.length = X.length by omega, List.take_of_length_le (by simp; omega)]; simp

theorem len_sub (T G L : Nat) (h : G ≤ T) (hT : T = L) (hL : L ≤ 100000) : IntKind.i64.wrap (((L : Nat) : Int) - G) = ((T - G : Nat) : Int) := by rw [IntWalk.i64_in _ (by omega)]; omega

set_option maxRecDepth 100000 in
set_option maxHeartbeats 4000000 in
theorem WalFixed_any (v0 : Value) (x0 : List Int × List Int) (vb : Value) (bs : List Int) (w : World) (h : Sto w v0 x0) (hb0 : Row .u8 w vb bs) :
    Calls Try.prog 8 #[v0, vb] w fun e w' => e = .returned (.bool true) ∧ Below w.heap.size w w' := by
  obtain ⟨S, O⟩ := x0
  obtain ⟨v1, v2, rfl, rS, rO⟩ := h
  simp only at rS rO
  have rb := hb0
  obtain ⟨i0, hi, hz0, hz1, hz2⟩ := info_parts info_row20
  obtain ⟨a1, c1, rfl⟩ := rS.shape S.length rfl
  obtain ⟨a2, c2, rfl⟩ := rO.shape O.length rfl
  obtain ⟨ab, cb, rfl⟩ := rb.shape bs.length rfl
  have hB := Below.refl w.heap.size w
  clear hb0
  go_enter Try.func8, Try.ntmps8
  have dS := Duo.new w 24 (.slice a1 S.length c1) (.slice a2 O.length c2)
  go_wp2_with fail
  refine (live_true _).mono ?_; rintro e w1 ⟨rfl, hb⟩
  replace hB := bel_stp (bel_alloc hB _) hb
  replace rS := (rS.alloc _).stp hb
  replace rO := (rO.alloc _).stp hb
  replace rb := (rb.alloc _).stp hb
  replace dS := dS.stp hb
  clear hb
  have c0_dS := dS.cell0
  have c1_dS := dS.cell1
  have lt_dS := dS.lt
  go_wp2_with fail
  refine (Few_any _ _ S O _ rS rO).mono ?_; rintro e w2 ⟨rfl, hb⟩
  clear c0_dS c1_dS lt_dS
  replace hB := bel_stp hB hb
  replace rS := rS.stp hb
  replace rO := rO.stp hb
  replace rb := rb.stp hb
  replace dS := dS.stp hb
  clear hb
  by_cases c : S.length ≤ 3000 ∧ O.length ≤ 3000
  case neg =>
    rw [decide_eq_false c]
    go_wp2_with fail
    go_ret
    exact ⟨rfl, hB⟩
  rw [decide_eq_true c]
  obtain ⟨n1, n2⟩ := c
  by_cases g1 : (300 : Int) < (bs.length : Int)
  case pos =>
    go_wp2_with fail
    go_ret
    exact ⟨rfl, hB⟩
  obtain ⟨TT, hT⟩ : ∃ TT, S ++ O = TT := ⟨_, rfl⟩
  obtain ⟨gd, hG⟩ : ∃ gd, Wm.good TT = gd := ⟨_, rfl⟩
  obtain ⟨L, hL⟩ : ∃ L, Wm.read TT = L := ⟨_, rfl⟩
  obtain ⟨X, hX⟩ : ∃ X, TT.take (min gd S.length) = X := ⟨_, rfl⟩
  obtain ⟨Y, hY⟩ : ∃ Y, (TT.take gd).drop (min gd S.length) = Y := ⟨_, rfl⟩
  obtain ⟨f1, f2, f3, f4, f5, f6, f7⟩ := Wm.fixed_facts S O TT X Y gd hT hG hX hY
  rw [hL] at f4
  have hTl : TT.length = S.length + O.length := by rw [← hT]; simp
  have hgT : gd ≤ TT.length := by rw [← hG]; exact Wm.good_le TT
  obtain ⟨N, hN⟩ : ∃ N, TT.length - gd = N := ⟨_, rfl⟩
  have F2 := Lib.hid f2; have F3 := Lib.hid f3; have HTl := Lib.hid hTl; have HN := Lib.hid hN; have HgT := Lib.hid hgT
  have bX : X.length ≤ 3000 := by omega
  have bY : Y.length ≤ 6000 := by omega
  have bL : L.length ≤ 6000 := by rw [← hL]; have := read_len TT; omega
  have hxy : (X ++ Y).length = gd := by rw [List.length_append]; exact f2
  have HXY := Lib.hid f1
  obtain ⟨F, hF⟩ : ∃ F, Wm.frame bs = F := ⟨_, rfl⟩
  have hr : Wm.read (X ++ (Y ++ F)) = L ++ [bs] ∧ (Y ++ F).length ≤ 7000 := by
    have q := Wm.read_append (X ++ Y) (Wm.frame bs) (by rw [f5, hxy])
    have q2 := Wm.read_frame bs (by omega)
    have q3 := Wm.frame_length bs
    rw [← List.append_assoc, ← hF, q.1, f4, q2.1]
    exact ⟨rfl, by simp; omega⟩
  obtain ⟨hr, bF⟩ := hr
  have HR := Lib.hid hr; have F4 := Lib.hid f4; have F5 := Lib.hid f5; have F6 := Lib.hid f6; have F7 := Lib.hid f7; have HX := Lib.hid hX; have HY := Lib.hid hY; have HXYl := Lib.hid hxy
  clear f1 f2 f3 f4 f5 f6 f7 hX hY hr hxy hTl hN hgT
  have c0_dS := dS.cell0
  have c1_dS := dS.cell1
  have lt_dS := dS.lt
  go_wp2_with fail
  refine (Read_any _ _ S O _ rS rO (by omega) (by omega)).mono ?_; rintro e w3 ⟨ra, rfl, rA, hb⟩
  clear c0_dS c1_dS lt_dS
  replace hB := bel_stp hB hb
  replace rS := rS.stp hb
  replace rO := rO.stp hb
  replace rb := rb.stp hb
  replace dS := dS.stp hb
  clear hb
  rw [hT, hL] at rA
  rw [hT, hG]
  obtain ⟨aA, cA, rfl, -, -⟩ := rA.shape
  have c0_dS := dS.cell0
  have c1_dS := dS.cell1
  have lt_dS := dS.lt
  go_wp2_with fail
  refine (Fix_any _ _ S O _ rS rO (by omega) (by omega)).mono ?_; rintro e w4 ⟨x1, x2, rfl, rX, rY, hb⟩
  clear c0_dS c1_dS lt_dS
  replace hB := bel_stp hB hb
  replace rS := rS.stp hb
  replace rO := rO.stp hb
  replace rb := rb.stp hb
  replace dS := dS.stp hb
  replace rA := rA.stp hb
  clear hb
  rw [hT, hG] at rX rY
  rw [HX.out] at rX
  rw [HY.out] at rY
  rw [hT, hG, HN.out]
  obtain ⟨aX, cX, rfl⟩ := rX.shape X.length rfl
  obtain ⟨aY, cY, rfl⟩ := rY.shape Y.length rfl
  have dX := Duo.new w4 24 (.slice aX X.length cX) (.slice aY Y.length cY)
  go_wp2_with fail
  refine (Read_any _ _ X Y _ (rX.alloc _) (rY.alloc _) (by omega) (by omega)).mono ?_; rintro e w5 ⟨rm, rfl, rM, hb⟩
  replace hB := bel_stp (bel_alloc hB _) hb
  replace rS := (rS.alloc _).stp hb
  replace rO := (rO.alloc _).stp hb
  replace rb := (rb.alloc _).stp hb
  replace dS := (dS.alloc _).stp hb
  replace rA := (rA.alloc _).stp hb
  replace rX := (rX.alloc _).stp hb
  replace rY := (rY.alloc _).stp hb
  replace dX := dX.stp hb
  clear hb
  rw [F4.out] at rM
  rw [F5.out]
  obtain ⟨aM, cM, rfl, -, -⟩ := rM.shape
  have c0_dX := dX.cell0
  have c1_dX := dX.cell1
  have lt_dX := dX.lt
  go_wp2_with fail
  refine (Fix_any _ _ X Y _ rX rY (by omega) (by omega)).mono ?_; rintro e w6 ⟨y1, y2, rfl, rU, rV, hb⟩
  clear c0_dX c1_dX lt_dX
  replace hB := bel_stp hB hb
  replace rS := rS.stp hb
  replace rO := rO.stp hb
  replace rb := rb.stp hb
  replace dS := dS.stp hb
  replace rA := rA.stp hb
  replace rX := rX.stp hb
  replace rY := rY.stp hb
  replace dX := dX.stp hb
  replace rM := rM.stp hb
  clear hb
  rw [F5.out] at rU rV
  rw [F6.out] at rU
  rw [F7.out] at rV
  rw [F5.out, HXYl.out, Nat.sub_self]
  obtain ⟨aU, cU, rfl⟩ := rU.shape X.length rfl
  obtain ⟨aV, cV, rfl⟩ := rV.shape Y.length rfl
  have dU := Duo.new w6 24 (.slice aU X.length cU) (.slice aV Y.length cV)
  have c0_dX := dX.cell0
  have c1_dX := dX.cell1
  have lt_dX := dX.lt
  go_wp2_with fail
  refine (Append_ok _ _ _ X Y bs _ (rX.alloc _) (rY.alloc _) (rb.alloc _) (by omega) (by omega) (by omega) (by rw [F5.out, HXYl.out])).mono ?_; rintro e w7 ⟨z1, z2, rfl, rZ, rW, hb⟩
  clear c0_dX c1_dX lt_dX
  replace hB := bel_stp (bel_alloc hB _) hb
  replace rS := (rS.alloc _).stp hb
  replace rO := (rO.alloc _).stp hb
  replace rb := (rb.alloc _).stp hb
  replace dS := (dS.alloc _).stp hb
  replace rA := (rA.alloc _).stp hb
  replace rX := (rX.alloc _).stp hb
  replace rY := (rY.alloc _).stp hb
  replace dX := (dX.alloc _).stp hb
  replace rM := (rM.alloc _).stp hb
  replace rU := (rU.alloc _).stp hb
  replace rV := (rV.alloc _).stp hb
  replace dU := dU.stp hb
  clear hb
  rw [hF] at rW
  obtain ⟨ZW, hZW⟩ : ∃ ZW, Y ++ F = ZW := ⟨_, rfl⟩
  rw [hZW] at rW bF HR
  obtain ⟨aZ, cZ, rfl⟩ := rZ.shape X.length rfl
  obtain ⟨aW, cW, rfl⟩ := rW.shape ZW.length rfl
  have dZ := Duo.new w7 24 (.slice aZ X.length cZ) (.slice aW ZW.length cW)
  go_wp2_with fail
  refine (Read_any _ _ X ZW _ (rZ.alloc _) (rW.alloc _) (by omega) (by omega)).mono ?_; rintro e w8 ⟨rn, rfl, rN, hb⟩
  replace hB := bel_stp (bel_alloc hB _) hb
  replace rS := (rS.alloc _).stp hb
  replace rO := (rO.alloc _).stp hb
  replace rb := (rb.alloc _).stp hb
  replace dS := (dS.alloc _).stp hb
  replace rA := (rA.alloc _).stp hb
  replace rX := (rX.alloc _).stp hb
  replace rY := (rY.alloc _).stp hb
  replace dX := (dX.alloc _).stp hb
  replace rM := (rM.alloc _).stp hb
  replace rU := (rU.alloc _).stp hb
  replace rV := (rV.alloc _).stp hb
  replace dU := (dU.alloc _).stp hb
  replace rZ := (rZ.alloc _).stp hb
  replace rW := (rW.alloc _).stp hb
  replace dZ := dZ.stp hb
  clear hb
  obtain ⟨LB, hLB⟩ : ∃ LB, L ++ [bs] = LB := ⟨_, rfl⟩
  have bLB : LB.length ≤ 7000 := by rw [← hLB]; simp; omega
  rw [HR.out, hLB] at rN
  obtain ⟨aN, cN, rfl, -, -⟩ := rN.shape
  obtain ⟨gz, hgz⟩ : ∃ gz, Wm.good (X ++ ZW) = gz := ⟨_, rfl⟩
  rw [hgz]
  clear rZ rW dZ rS rO
  go_wp2_with fail
  refine (Lists_yes _ _ L L _ rA rM rfl (by omega)).mono ?_; rintro e w9 ⟨rfl, hb⟩
  replace hB := bel_stp hB hb
  replace rb := rb.stp hb
  replace dS := dS.stp hb
  replace rA := rA.stp hb
  replace rX := rX.stp hb
  replace rY := rY.stp hb
  replace dX := dX.stp hb
  replace rM := rM.stp hb
  replace rU := rU.stp hb
  replace rV := rV.stp hb
  replace dU := dU.stp hb
  replace rN := rN.stp hb
  clear hb
  have c0_dX := dX.cell0
  have c1_dX := dX.cell1
  have lt_dX := dX.lt
  have c0_dS := dS.cell0
  have c1_dS := dS.cell1
  have lt_dS := dS.lt
  have c0_dU := dU.cell0
  have c1_dU := dU.cell1
  have lt_dU := dU.lt
  have e1 : IntKind.i64.wrap ((X.length : Int) + Y.length) = gd := by rw [IntWalk.i64_in _ (by omega)]; have := F2.out; omega
  have e2 : IntKind.i64.wrap ((S.length : Int) + O.length) = (S.length : Int) + O.length := IntWalk.i64_in _ (by omega)
  have e3 : IntKind.i64.wrap ((S.length : Int) + O.length - gd) = N := by have := HTl.out; have := HgT.out; rw [IntWalk.i64_in _ (by omega)]; have := HN.out; omega
  have k1 : (X.length : Int) + Y.length = gd := by have := F2.out; omega
  have k2 : (S.length : Int) + O.length - gd = N := by have := HTl.out; have := HgT.out; have := HN.out; omega
  go_wp2_with fail
  refine (Same_yes _ _ _ _ X Y X Y _ rX rY rU rV rfl rfl).mono ?_; rintro e w10 ⟨rfl, hb⟩
  clear c0_dX c1_dX lt_dX c0_dS c1_dS lt_dS c0_dU c1_dU lt_dU
  replace hB := bel_stp hB hb
  replace rb := rb.stp hb
  replace dS := dS.stp hb
  replace rA := rA.stp hb
  replace rX := rX.stp hb
  replace rY := rY.stp hb
  replace dX := dX.stp hb
  replace rM := rM.stp hb
  replace rU := rU.stp hb
  replace rV := rV.stp hb
  replace dU := dU.stp hb
  replace rN := rN.stp hb
  clear hb
  clear e1 e2 e3 k1 k2 g1
  have hw0 : Below w10.heap.size w10 w10 := Below.refl _ _
  go_wp2_with (first
      | (at_builtin; go_big_want; refine wp_append_rws (w0 := w10) (.tmp 107) (.tmp 108) 34 rfl 22 i0 (.slice none 0 0) Try.underlying34 hi hz0 hz1 hz2 rfl .u8 (hw0.alloc (Nat.le_refl _) _) _ [] [] rfl (owns_empty w10 w10.heap.size 22 (Nat.le_refl _)) (Vals.nil _ _) _ L (rA.at' (hw0.alloc (Nat.le_refl _) _)) rfl (by simp; omega) ?_; intro va wa ya oa xa ba; rw [List.nil_append] at oa xa)
      | (at_builtin; go_big_want; refine wp_append_rws (w0 := w10) (.tmp 109) (.tmp 111) 34 rfl 22 i0 (.slice none 0 0) Try.underlying34 hi hz0 hz1 hz2 rfl .u8 (ba.alloc ba.size _) _ _ L rfl (oa.alloc _) xa _ [bs] (RwsAt.one _ rb) rfl (by simp; omega) ?_; intro vb' wb yb ob xb bb; rw [hLB] at ob xb)
      | fail)
  have rF := Rws.of_vals ob xb bb
  refine (Lists_yes _ _ LB LB _ (rN.below bb) rF rfl (by omega)).mono ?_; rintro e wz ⟨rfl, hb⟩
  have hBz := hB.trans (bb.mono hB.size)
  replace hBz := bel_stp hBz hb
  go_wp2_with fail
  go_ret
  exact ⟨rfl, hBz⟩
end Go.Proofs.Ytpemahllpbadcaa
