/-
  The walk over WalReads.
-/
import Derived.Test.YtpemahllpbadcaaWy
import Derived.Test.YtpemahllpbadcaaGf
import Derived.Test.YtpemahllpbadcaaGh
namespace Go.Proofs.Ytpemahllpbadcaa
open Go.RowKit

/-- What a crash leaves, and its code. -/
def crashed (S O : List Int) (keep : Int) : List Int × Int := if 0 ≤ keep ∧ keep ≤ O.length then (S ++ O.take keep.toNat, 0) else ([], 1)
theorem Crash_all (v1 v2 : Value) (S O : List Int) (keep : Int) (w : World) (h1 : Row .u8 w v1 S) (h2 : Row .u8 w v2 O) (n : S.length + O.length ≤ 65536) :
    Calls Try.prog 22 #[.agg #[v1, v2], .int .i64 keep] w fun e w' => ∃ x1 x2, e = .returned (.tuple #[.agg #[x1, x2], .int .i64 (crashed S O keep).2]) ∧ Row .u8 w' x1 (crashed S O keep).1 ∧ Row .u8 w' x2 [] ∧ Below w.heap.size w w' := by
  by_cases hk : 0 ≤ keep ∧ keep ≤ O.length
  · obtain ⟨k, rfl⟩ : ∃ k : Nat, keep = k := ⟨keep.toNat, by omega⟩
    unfold crashed; rw [if_pos hk]
    refine (Crash_yes v1 v2 S O _ k w h1 h2 n (by omega) rfl).mono ?_
    rintro e w' ⟨a, c, rfl, r, hb⟩
    exact ⟨_, _, rfl, r, Row.nil _ _, hb⟩
  · unfold crashed; rw [if_neg hk]
    refine (Crash_no v1 v2 S O keep w h1 h2 n (by omega)).mono ?_
    rintro e w' ⟨rfl, hb⟩
    exact ⟨_, _, rfl, Row.nil _ _, Row.nil _ _, hb⟩
theorem RCrash_all (v1 v2 : Value) (S O : List Int) (keep : Int) (w : World) (h1 : Row .u8 w v1 S) (h2 : Row .u8 w v2 O) (n : S.length + O.length ≤ 65536) :
    Calls Try.prog 23 #[.agg #[v1, v2], .int .i64 keep] w fun e w' => ∃ x1 x2, e = .returned (.tuple #[.agg #[x1, x2], .int .i64 (crashed S O keep).2]) ∧ Row .u8 w' x1 (crashed S O keep).1 ∧ Row .u8 w' x2 [] ∧ Below w.heap.size w w' := by
  by_cases hk : 0 ≤ keep ∧ keep ≤ O.length
  · obtain ⟨k, rfl⟩ : ∃ k : Nat, keep = k := ⟨keep.toNat, by omega⟩
    unfold crashed; rw [if_pos hk]
    refine (RCrash_yes v1 v2 S O _ k w h1 h2 n (by omega) rfl).mono ?_
    rintro e w' ⟨a, c, rfl, r, hb⟩
    exact ⟨_, _, rfl, r, Row.nil _ _, hb⟩
  · unfold crashed; rw [if_neg hk]
    refine (RCrash_no v1 v2 S O keep w h1 h2 n (by omega)).mono ?_
    rintro e w' ⟨rfl, hb⟩
    exact ⟨_, _, rfl, Row.nil _ _, Row.nil _ _, hb⟩

set_option maxRecDepth 100000 in
set_option maxHeartbeats 4000000 in
theorem WalReads_any (v0 : Value) (x0 : List Int × List Int) (keep : Int) (w : World) (h : Sto w v0 x0) (_hk : (Lit.int .i64 keep).wf = true) :
    Calls Try.prog 4 #[v0, .int .i64 keep] w fun e w' => e = .returned (.bool true) ∧ Below w.heap.size w w' := by
  obtain ⟨S, O⟩ := x0
  obtain ⟨v1, v2, rfl, rS, rO⟩ := h
  simp only at rS rO
  obtain ⟨a1, c1, rfl⟩ := rS.shape S.length rfl
  obtain ⟨a2, c2, rfl⟩ := rO.shape O.length rfl
  have hB := Below.refl w.heap.size w
  go_enter Try.func4, Try.ntmps4
  have dS := Duo.new w 24 (.slice a1 S.length c1) (.slice a2 O.length c2)
  go_wp2_with fail
  refine (live_true _).mono ?_; rintro e w1 ⟨rfl, hb⟩
  replace hB := bel_stp (bel_alloc hB _) hb
  replace rS := (rS.alloc _).stp hb
  replace rO := (rO.alloc _).stp hb
  replace dS := dS.stp hb
  clear hb
  have c0_dS := dS.cell0
  have c1_dS := dS.cell1
  have lt_dS := dS.lt
  go_wp2_with fail
  refine (Few_any _ _ S O _ rS rO).mono ?_; rintro e w2 ⟨rfl, hb⟩
  clear c0_dS c1_dS lt_dS
  replace hB := bel_stp hB hb
  replace rS := rS.stp hb
  replace rO := rO.stp hb
  replace dS := dS.stp hb
  clear hb
  by_cases c : S.length ≤ 3000 ∧ O.length ≤ 3000
  case neg =>
    rw [decide_eq_false c]
    go_wp2_with fail
    go_ret
    exact ⟨rfl, hB⟩
  rw [decide_eq_true c]
  obtain ⟨n1, n2⟩ := c
  obtain ⟨A, hA⟩ : ∃ A, S ++ O = A := ⟨_, rfl⟩
  have bA : A.length ≤ 6000 := by rw [← hA]; simp; omega
  obtain ⟨gd, hG⟩ : ∃ gd, Wm.good A = gd := ⟨_, rfl⟩
  obtain ⟨L, hL⟩ : ∃ L, Wm.read A = L := ⟨_, rfl⟩
  have bL : L.length ≤ 6000 := by rw [← hL]; have := read_len A; omega
  obtain ⟨X, hX⟩ : ∃ X, A.take (min gd S.length) = X := ⟨_, rfl⟩
  obtain ⟨Y, hY⟩ : ∃ Y, (A.take gd).drop (min gd S.length) = Y := ⟨_, rfl⟩
  obtain ⟨N, hN⟩ : ∃ N, A.length - gd = N := ⟨_, rfl⟩
  obtain ⟨CX, hCX⟩ : ∃ CX, (crashed S O keep).1 = CX := ⟨_, rfl⟩
  obtain ⟨cc, hcc⟩ : ∃ cc, (crashed S O keep).2 = cc := ⟨_, rfl⟩
  have HA := Lib.hid hA; have HG := Lib.hid hG; have HL := Lib.hid hL; have HX := Lib.hid hX; have HY := Lib.hid hY; have HN := Lib.hid hN; have HCX := Lib.hid hCX; have Hcc := Lib.hid hcc
  clear hA hG hL hX hY hN hCX hcc
  have c0_dS := dS.cell0
  have c1_dS := dS.cell1
  have lt_dS := dS.lt
  go_wp2_with fail
  refine (Read_any _ _ S O _ rS rO (by omega) (by omega)).mono ?_; rintro e w3 ⟨q1, rfl, rL1, hb⟩
  clear c0_dS c1_dS lt_dS
  replace hB := bel_stp hB hb
  replace rS := rS.stp hb
  replace rO := rO.stp hb
  replace dS := dS.stp hb
  clear hb
  rw [HA.out, HL.out] at rL1
  rw [HA.out, HG.out]
  obtain ⟨aL1, cL1, rfl, -, -⟩ := rL1.shape
  have c0_dS := dS.cell0
  have c1_dS := dS.cell1
  have lt_dS := dS.lt
  go_wp2_with fail
  refine (RRead_any _ _ S O _ rS rO (by omega) (by omega)).mono ?_; rintro e w4 ⟨q2, rfl, rL2, hb⟩
  clear c0_dS c1_dS lt_dS
  replace hB := bel_stp hB hb
  replace rS := rS.stp hb
  replace rO := rO.stp hb
  replace dS := dS.stp hb
  replace rL1 := rL1.stp hb
  clear hb
  rw [HA.out, HL.out] at rL2
  rw [HA.out, HG.out]
  obtain ⟨aL2, cL2, rfl, -, -⟩ := rL2.shape
  have c0_dS := dS.cell0
  have c1_dS := dS.cell1
  have lt_dS := dS.lt
  go_wp2_with fail
  refine (Crash_all _ _ S O keep _ rS rO (by omega)).mono ?_; rintro e w5 ⟨u1, v1, rfl, rU1, rV1, hb⟩
  clear c0_dS c1_dS lt_dS
  replace hB := bel_stp hB hb
  replace rS := rS.stp hb
  replace rO := rO.stp hb
  replace dS := dS.stp hb
  replace rL1 := rL1.stp hb
  replace rL2 := rL2.stp hb
  clear hb
  rw [HCX.out] at rU1
  rw [Hcc.out]
  obtain ⟨aU1, cU1, rfl⟩ := rU1.shape CX.length rfl
  obtain ⟨aV1, cV1, rfl⟩ := rV1.shape 0 rfl
  have dC1 := Duo.new w5 24 (.slice aU1 CX.length cU1) (.slice aV1 0 cV1)
  have c0_dS := dS.cell0
  have c1_dS := dS.cell1
  have lt_dS := dS.lt
  go_wp2_with fail
  refine (RCrash_all _ _ S O keep _ (rS.alloc _) (rO.alloc _) (by omega)).mono ?_; rintro e w6 ⟨u2, v2, rfl, rU2, rV2, hb⟩
  clear c0_dS c1_dS lt_dS
  replace hB := bel_stp (bel_alloc hB _) hb
  replace rS := (rS.alloc _).stp hb
  replace rO := (rO.alloc _).stp hb
  replace dS := (dS.alloc _).stp hb
  replace rL1 := (rL1.alloc _).stp hb
  replace rL2 := (rL2.alloc _).stp hb
  replace rU1 := (rU1.alloc _).stp hb
  replace rV1 := (rV1.alloc _).stp hb
  replace dC1 := dC1.stp hb
  clear hb
  rw [HCX.out] at rU2
  rw [Hcc.out]
  obtain ⟨aU2, cU2, rfl⟩ := rU2.shape CX.length rfl
  obtain ⟨aV2, cV2, rfl⟩ := rV2.shape 0 rfl
  have dC2 := Duo.new w6 24 (.slice aU2 CX.length cU2) (.slice aV2 0 cV2)
  have c0_dS := dS.cell0
  have c1_dS := dS.cell1
  have lt_dS := dS.lt
  go_wp2_with fail
  refine (Fix_any _ _ S O _ (rS.alloc _) (rO.alloc _) (by omega) (by omega)).mono ?_; rintro e w7 ⟨s1, t1, rfl, rX1, rY1, hb⟩
  clear c0_dS c1_dS lt_dS
  replace hB := bel_stp (bel_alloc hB _) hb
  replace rS := (rS.alloc _).stp hb
  replace rO := (rO.alloc _).stp hb
  replace dS := (dS.alloc _).stp hb
  replace rL1 := (rL1.alloc _).stp hb
  replace rL2 := (rL2.alloc _).stp hb
  replace rU1 := (rU1.alloc _).stp hb
  replace rV1 := (rV1.alloc _).stp hb
  replace dC1 := (dC1.alloc _).stp hb
  replace rU2 := (rU2.alloc _).stp hb
  replace rV2 := (rV2.alloc _).stp hb
  replace dC2 := dC2.stp hb
  clear hb
  rw [HA.out, HG.out] at rX1 rY1
  rw [HX.out] at rX1
  rw [HY.out] at rY1
  rw [HA.out, HG.out, HN.out]
  obtain ⟨aX1, cX1, rfl⟩ := rX1.shape X.length rfl
  obtain ⟨aY1, cY1, rfl⟩ := rY1.shape Y.length rfl
  have dF1 := Duo.new w7 24 (.slice aX1 X.length cX1) (.slice aY1 Y.length cY1)
  have c0_dS := dS.cell0
  have c1_dS := dS.cell1
  have lt_dS := dS.lt
  go_wp2_with fail
  refine (RFix_any _ _ S O _ (rS.alloc _) (rO.alloc _) (by omega) (by omega)).mono ?_; rintro e w8 ⟨s2, t2, rfl, rX2, rY2, hb⟩
  clear c0_dS c1_dS lt_dS
  replace hB := bel_stp (bel_alloc hB _) hb
  replace rS := (rS.alloc _).stp hb
  replace rO := (rO.alloc _).stp hb
  replace dS := (dS.alloc _).stp hb
  replace rL1 := (rL1.alloc _).stp hb
  replace rL2 := (rL2.alloc _).stp hb
  replace rU1 := (rU1.alloc _).stp hb
  replace rV1 := (rV1.alloc _).stp hb
  replace dC1 := (dC1.alloc _).stp hb
  replace rU2 := (rU2.alloc _).stp hb
  replace rV2 := (rV2.alloc _).stp hb
  replace dC2 := (dC2.alloc _).stp hb
  replace rX1 := (rX1.alloc _).stp hb
  replace rY1 := (rY1.alloc _).stp hb
  replace dF1 := dF1.stp hb
  clear hb
  rw [HA.out, HG.out] at rX2 rY2
  rw [HX.out] at rX2
  rw [HY.out] at rY2
  rw [HA.out, HG.out, HN.out]
  obtain ⟨aX2, cX2, rfl⟩ := rX2.shape X.length rfl
  obtain ⟨aY2, cY2, rfl⟩ := rY2.shape Y.length rfl
  have dF2 := Duo.new w8 24 (.slice aX2 X.length cX2) (.slice aY2 Y.length cY2)
  clear rS rO dS
  go_wp2_with fail
  refine (Lists_yes _ _ L L _ (rL1.alloc _) (rL2.alloc _) rfl (by omega)).mono ?_; rintro e w9 ⟨rfl, hb⟩
  replace hB := bel_stp (bel_alloc hB _) hb
  replace rL1 := (rL1.alloc _).stp hb
  replace rL2 := (rL2.alloc _).stp hb
  replace rU1 := (rU1.alloc _).stp hb
  replace rV1 := (rV1.alloc _).stp hb
  replace dC1 := (dC1.alloc _).stp hb
  replace rU2 := (rU2.alloc _).stp hb
  replace rV2 := (rV2.alloc _).stp hb
  replace dC2 := (dC2.alloc _).stp hb
  replace rX1 := (rX1.alloc _).stp hb
  replace rY1 := (rY1.alloc _).stp hb
  replace dF1 := (dF1.alloc _).stp hb
  replace rX2 := (rX2.alloc _).stp hb
  replace rY2 := (rY2.alloc _).stp hb
  replace dF2 := dF2.stp hb
  clear hb
  have c0_dC1 := dC1.cell0
  have c1_dC1 := dC1.cell1
  have lt_dC1 := dC1.lt
  have c0_dC2 := dC2.cell0
  have c1_dC2 := dC2.cell1
  have lt_dC2 := dC2.lt
  go_wp2_with fail
  refine (Same_yes _ _ _ _ CX [] CX [] _ rU1 rV1 rU2 rV2 rfl rfl).mono ?_; rintro e w10 ⟨rfl, hb⟩
  clear c0_dC1 c1_dC1 lt_dC1 c0_dC2 c1_dC2 lt_dC2
  replace hB := bel_stp hB hb
  replace rL1 := rL1.stp hb
  replace rL2 := rL2.stp hb
  replace rU1 := rU1.stp hb
  replace rV1 := rV1.stp hb
  replace dC1 := dC1.stp hb
  replace rU2 := rU2.stp hb
  replace rV2 := rV2.stp hb
  replace dC2 := dC2.stp hb
  replace rX1 := rX1.stp hb
  replace rY1 := rY1.stp hb
  replace dF1 := dF1.stp hb
  replace rX2 := rX2.stp hb
  replace rY2 := rY2.stp hb
  replace dF2 := dF2.stp hb
  clear hb
  have c0_dF1 := dF1.cell0
  have c1_dF1 := dF1.cell1
  have lt_dF1 := dF1.lt
  have c0_dF2 := dF2.cell0
  have c1_dF2 := dF2.cell1
  have lt_dF2 := dF2.lt
  go_wp2_with fail
  refine (Same_yes _ _ _ _ X Y X Y _ rX1 rY1 rX2 rY2 rfl rfl).mono ?_; rintro e w11 ⟨rfl, hb⟩
  clear c0_dF1 c1_dF1 lt_dF1 c0_dF2 c1_dF2 lt_dF2
  replace hB := bel_stp hB hb
  replace rL1 := rL1.stp hb
  replace rL2 := rL2.stp hb
  replace rU1 := rU1.stp hb
  replace rV1 := rV1.stp hb
  replace dC1 := dC1.stp hb
  replace rU2 := rU2.stp hb
  replace rV2 := rV2.stp hb
  replace dC2 := dC2.stp hb
  replace rX1 := rX1.stp hb
  replace rY1 := rY1.stp hb
  replace dF1 := dF1.stp hb
  replace rX2 := rX2.stp hb
  replace rY2 := rY2.stp hb
  replace dF2 := dF2.stp hb
  clear hb
  go_wp2_with fail
  go_ret
  exact ⟨rfl, hB⟩
end Go.Proofs.Ytpemahllpbadcaa
