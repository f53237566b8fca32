/-
  The walk over WalSame.
-/
import Derived.Test.YtpemahllpbadcaaFe0
import Derived.Test.YtpemahllpbadcaaWy
import Derived.Test.YtpemahllpbadcaaWq
import Derived.Test.YtpemahllpbadcaaRb
namespace Go.Proofs.Ytpemahllpbadcaa
open Go.RowKit

set_option maxRecDepth 100000 in
set_option maxHeartbeats 4000000 in
theorem WalSame_any (v0 : Value) (x0 : List Int × List Int) (at0 : Int) (w : World) (h : Sto w v0 x0) (_hk : (Lit.int .i64 at0).wf = true) :
    Calls Try.prog 9 #[v0, .int .i64 at0] w fun e w' => e = .returned (.bool true) ∧ Below w.heap.size w w' := by
  obtain ⟨S, O⟩ := x0
  obtain ⟨v1, v2, rfl, rS, rO⟩ := h
  simp only at rS rO
  obtain ⟨j0, gi, gz0, gz1, gz2⟩ := info_parts info_byte20
  obtain ⟨a1, c1, rfl⟩ := rS.shape S.length rfl
  obtain ⟨a2, c2, rfl⟩ := rO.shape O.length rfl
  have hB := Below.refl w.heap.size w
  go_enter Try.func9, Try.ntmps9
  have dS := Duo.new w 24 (.slice a1 S.length c1) (.slice a2 O.length c2)
  go_wp2_with fail
  refine (live_true _).mono ?_; rintro e w1 ⟨rfl, hb⟩
  replace hB := bel_stp (bel_alloc hB _) hb
  replace rS := (rS.alloc _).stp hb
  replace rO := (rO.alloc _).stp hb
  replace dS := dS.stp hb
  clear hb
  have c0_dS := dS.cell0
  have c1_dS := dS.cell1
  have lt_dS := dS.lt
  go_wp2_with fail
  refine (Few_any _ _ S O _ rS rO).mono ?_; rintro e w2 ⟨rfl, hb⟩
  clear c0_dS c1_dS lt_dS
  replace hB := bel_stp hB hb
  replace rS := rS.stp hb
  replace rO := rO.stp hb
  replace dS := dS.stp hb
  clear hb
  by_cases c : S.length ≤ 3000 ∧ O.length ≤ 3000
  case neg =>
    rw [decide_eq_false c]
    go_wp2_with fail
    go_ret
    exact ⟨rfl, hB⟩
  rw [decide_eq_true c]
  obtain ⟨n1, n2⟩ := c
  by_cases g1 : at0 < 0
  case pos =>
    go_wp2_with fail
    go_ret
    exact ⟨rfl, hB⟩
  obtain ⟨m, rfl⟩ : ∃ n : Nat, at0 = n := ⟨at0.toNat, by omega⟩
  obtain ⟨A, hA⟩ : ∃ A, S ++ O = A := ⟨_, rfl⟩
  have hAl : A.length = S.length + O.length := by rw [← hA]; simp
  have HAl := Lib.hid hAl
  have bA : A.length ≤ 6000 := by omega
  have hAb : ∀ x ∈ A, byte x := by
    intro x hx
    rw [← hA] at hx
    rcases List.mem_append.1 hx with h | h
    · exact rS.all_byte x h
    · exact rO.all_byte x h
  have HAb := Lib.hid hAb; have HA := Lib.hid hA
  clear hA hAb hAl
  go_wp2_with fail
  have bd := dS.drew
  have c0 := dS.cell0
  have c1' := dS.cell1
  have ltV := dS.lt
  have nV1 : ¬ w.heap.size = w2.heap.size := by omega
  have nV2 : ¬ w2.heap.size = w.heap.size := by omega
  have hw0 : Below w2.heap.size w2 w2.drew := bel_drew (Below.refl _ _)
  go_region_held3 (fun w' => w'.cell? ⟨w.heap.size, 0, none⟩ = some (.slice a1 S.length c1) ∧ w'.cell? ⟨w.heap.size, 1, none⟩ = some (.slice a2 O.length c2))
    (first | go_keep | (refine ⟨?_, ?_⟩ <;> assumption))
    (first
      | (rw [if_pos (by rfl)]; refine wp_append_bytes (w0 := w2) (.tmp 25) (.tmp 27) 22 rfl 5 j0 (.int .u8 0) Try.underlying22 gi gz0 gz1 gz2 rfl (hw0.alloc (Nat.le_refl _) _) _ [] rfl (owns_empty w2.drew w2.heap.size 5 (Nat.le_refl _)) _ S rS rfl (by first | omega | (simp; omega)) ?_; intro va wa oa ba za da; rw [List.nil_append] at oa; obtain ⟨aa, ca, rfl, ra, pa⟩ := row_of_owned oa rS.all_byte; have bda := dS.stp ba; have e0 := bda.cell0; have e1 := bda.cell1)
      | (rw [if_pos (by rfl)]; refine wp_append_bytes (w0 := w2) (.tmp 28) (.tmp 30) 22 rfl 5 j0 (.int .u8 0) Try.underlying22 gi gz0 gz1 gz2 rfl ba _ S rfl oa _ O rO rfl (by first | omega | (simp; omega)) ?_; intro vb wb ob bb zb db; rw [HA.out] at ob; obtain ⟨ab, cb, rfl, rb, pb⟩ := row_of_owned ob HAb.out; have bdb := dS.stp bb; have e2 := bdb.cell0; have e3 := bdb.cell1))
  all_goals
    clear c0 c1' ltV nV1 nV2 hw0 bd bda e0 e1 bdb e2 e3 za zb da db oa ob pa pb ra ba
    have hb : Stp w2 wb := bb
    replace hB := bel_stp hB hb
    replace rS := rS.stp hb
    replace rO := rO.stp hb
    replace dS := dS.stp hb
    clear hb
    clear bb
    obtain ⟨K, hK⟩ : ∃ K, m % (A.length + 1) = K := ⟨_, rfl⟩
    have hKn : K ≤ A.length := by rw [← hK]; have := Nat.mod_lt m (show 0 < A.length + 1 by omega); omega
    have eR : IntKind.i64.wrap ((A.length : Int) + 1) = (A.length : Int) + 1 := IntWalk.i64_in _ (by omega)
    have eT : Int.tmod (m : Int) ((A.length : Int) + 1) = (K : Int) := by rw [← hK]; rfl
    have eN : ¬ ((A.length : Int) + 1 = 0) := by omega
    have hcb : A.length ≤ cb := by obtain ⟨_, _, e, h, _⟩ := rb; cases e; exact h
    have kc : (K : Int) ≤ (cb : Int) := by omega
    have kn : (K : Int) ≤ (A.length : Int) := by omega
    clear hK
    have rX := rb.take K hKn
    obtain ⟨X, hX⟩ : ∃ X, A.take K = X := ⟨_, rfl⟩
    obtain ⟨Y, hY⟩ : ∃ Y, A.drop K = Y := ⟨_, rfl⟩
    rw [hX] at rX
    have hXY : X ++ Y = A := by rw [← hX, ← hY]; exact List.take_append_drop K A
    have hXl : X.length = K := by rw [← hX]; simp; omega
    have hYl : Y.length = A.length - K := by rw [← hY]; simp
    have HXl := Lib.hid hXl; have HYl := Lib.hid hYl; have HXY := Lib.hid hXY; have HY := Lib.hid hY
    have bX : X.length ≤ 6000 := by omega
    have bY : Y.length ≤ 6000 := by omega
    clear hXY hXl hYl hX hY
    by_cases q : cb = K
    case' pos => subst q; have rY := rb.cut_all cb hKn (by omega); rw [show A.length - cb = 0 by omega] at rY
    case' neg => have rY := rb.cut K hKn (by omega)
    all_goals
      rw [HY.out] at rY
      go_wp2_with fail
      go_region_held3 (fun _ => True) (first | trivial | go_keep) (fail)
      all_goals
        first
          | (have dX := (Duo.new wb 24 (.slice ab K cb) (.slice (Option.map (fun x => x.add K) ab) (A.length - K) (cb - K))).drew
             have hb := bel_drew (bel_alloc (Below.refl wb.heap.size wb) (.cells #[(.slice ab K cb), (.slice (Option.map (fun x => x.add K) ab) (A.length - K) (cb - K))] 24))
             replace hB := bel_stp hB hb
             replace rS := rS.stp hb
             replace rO := rO.stp hb
             replace dS := dS.stp hb
             replace rb := rb.stp hb
             replace rX := rX.stp hb
             replace rY := rY.stp hb
             clear hb
             generalize hX1 : World.drew (World.alloc wb (.cells #[(.slice ab K cb), (.slice (Option.map (fun x => x.add K) ab) (A.length - K) (cb - K))] 24)) = W1 at *
             generalize hg1 : wb.heap.size = gx at *
             clear hX1 hg1)
          | (have dX := (Duo.new wb 24 (.slice ab cb cb) (.slice ab 0 0)).drew
             have hb := bel_drew (bel_alloc (Below.refl wb.heap.size wb) (.cells #[(.slice ab cb cb), (.slice ab 0 0)] 24))
             replace hB := bel_stp hB hb
             replace rS := rS.stp hb
             replace rO := rO.stp hb
             replace dS := dS.stp hb
             replace rb := rb.stp hb
             replace rX := rX.stp hb
             replace rY := rY.stp hb
             clear hb
             generalize hX1 : World.drew (World.alloc wb (.cells #[(.slice ab cb cb), (.slice ab 0 0)] 24)) = W1 at *
             generalize hg1 : wb.heap.size = gx at *
             clear hX1 hg1)
        obtain ⟨gd, hG⟩ : ∃ gd, Wm.good A = gd := ⟨_, rfl⟩
        obtain ⟨L, hL⟩ : ∃ L, Wm.read A = L := ⟨_, rfl⟩
        have bL : L.length ≤ 6000 := by rw [← hL]; have := read_len A; omega
        have HL := Lib.hid hL; have HG := Lib.hid hG
        clear hL hG
        have c0_dS := dS.cell0
        have c1_dS := dS.cell1
        have lt_dS := dS.lt
        go_wp2_with fail
        refine (Read_any _ _ S O _ rS rO (by omega) (by omega)).mono ?_; rintro e w3 ⟨r1, rfl, rM, hb⟩
        clear c0_dS c1_dS lt_dS
        replace hB := bel_stp hB hb
        replace rS := rS.stp hb
        replace rO := rO.stp hb
        replace dS := dS.stp hb
        replace rb := rb.stp hb
        replace rX := rX.stp hb
        replace rY := rY.stp hb
        replace dX := dX.stp hb
        clear hb
        rw [HA.out, HL.out] at rM
        rw [HA.out, HG.out]
        obtain ⟨aM, cM, rfl, -, -⟩ := rM.shape
        have c0_dX := dX.cell0
        have c1_dX := dX.cell1
        have lt_dX := dX.lt
        go_wp2_with fail
        refine (Read_any _ _ X Y _ rX rY (by omega) (by omega)).mono ?_; rintro e w4 ⟨r2, rfl, rN, hb⟩
        clear c0_dX c1_dX lt_dX
        replace hB := bel_stp hB hb
        replace rS := rS.stp hb
        replace rO := rO.stp hb
        replace dS := dS.stp hb
        replace rb := rb.stp hb
        replace rX := rX.stp hb
        replace rY := rY.stp hb
        replace dX := dX.stp hb
        replace rM := rM.stp hb
        clear hb
        rw [HXY.out, HL.out] at rN
        rw [HXY.out, HG.out]
        obtain ⟨aN, cN, rfl, -, -⟩ := rN.shape
        have c0_dS := dS.cell0
        have c1_dS := dS.cell1
        have lt_dS := dS.lt
        go_wp2_with fail
        refine (Sync_of _ _ S O A _ rS rO (by omega) HA.out).mono ?_; rintro e w5 ⟨aP, cP, rfl, rP, hfar, hb⟩
        clear c0_dS c1_dS lt_dS
        replace hB := bel_stp hB hb
        replace rS := rS.stp hb
        replace rO := rO.stp hb
        replace dS := dS.stp hb
        replace rb := rb.stp hb
        replace rX := rX.stp hb
        replace rY := rY.stp hb
        replace dX := dX.stp hb
        replace rM := rM.stp hb
        replace rN := rN.stp hb
        clear hb
        clear hfar
        have dP := Duo.new w5 24 (.slice aP A.length cP) (.slice none 0 0)
        have c0_dX := dX.cell0
        have c1_dX := dX.cell1
        have lt_dX := dX.lt
        go_wp2_with fail
        refine (Sync_of _ _ X Y A _ (rX.alloc _) (rY.alloc _) (by omega) HXY.out).mono ?_; rintro e w6 ⟨aQ, cQ, rfl, rQ, hfar, hb⟩
        clear c0_dX c1_dX lt_dX
        replace hB := bel_stp (bel_alloc hB _) hb
        replace rS := (rS.alloc _).stp hb
        replace rO := (rO.alloc _).stp hb
        replace dS := (dS.alloc _).stp hb
        replace rb := (rb.alloc _).stp hb
        replace rX := (rX.alloc _).stp hb
        replace rY := (rY.alloc _).stp hb
        replace dX := (dX.alloc _).stp hb
        replace rM := (rM.alloc _).stp hb
        replace rN := (rN.alloc _).stp hb
        replace rP := (rP.alloc _).stp hb
        replace dP := dP.stp hb
        clear hb
        clear hfar
        have dQ := Duo.new w6 24 (.slice aQ A.length cQ) (.slice none 0 0)
        go_wp2_with fail
        refine (Lists_yes _ _ L L _ (rM.alloc _) (rN.alloc _) rfl (by omega)).mono ?_; rintro e w7 ⟨rfl, hb⟩
        replace hB := bel_stp (bel_alloc hB _) hb
        replace rS := (rS.alloc _).stp hb
        replace rO := (rO.alloc _).stp hb
        replace dS := (dS.alloc _).stp hb
        replace rb := (rb.alloc _).stp hb
        replace rX := (rX.alloc _).stp hb
        replace rY := (rY.alloc _).stp hb
        replace dX := (dX.alloc _).stp hb
        replace rM := (rM.alloc _).stp hb
        replace rN := (rN.alloc _).stp hb
        replace rP := (rP.alloc _).stp hb
        replace dP := (dP.alloc _).stp hb
        replace rQ := (rQ.alloc _).stp hb
        replace dQ := dQ.stp hb
        clear hb
        have c0_dP := dP.cell0
        have c1_dP := dP.cell1
        have lt_dP := dP.lt
        have c0_dQ := dQ.cell0
        have c1_dQ := dQ.cell1
        have lt_dQ := dQ.lt
        go_wp2_with fail
        refine (Same_yes _ _ _ _ A [] A [] _ rP (Row.nil _ _) rQ (Row.nil _ _) rfl rfl).mono ?_; rintro e w8 ⟨rfl, hb⟩
        clear c0_dP c1_dP lt_dP c0_dQ c1_dQ lt_dQ
        replace hB := bel_stp hB hb
        replace rS := rS.stp hb
        replace rO := rO.stp hb
        replace dS := dS.stp hb
        replace rb := rb.stp hb
        replace rX := rX.stp hb
        replace rY := rY.stp hb
        replace dX := dX.stp hb
        replace rM := rM.stp hb
        replace rN := rN.stp hb
        replace rP := rP.stp hb
        replace dP := dP.stp hb
        replace rQ := rQ.stp hb
        replace dQ := dQ.stp hb
        clear hb
        have c0_dP := dP.cell0
        have c1_dP := dP.cell1
        have lt_dP := dP.lt
        have k1 := rP.convert
        have k2 := rb.convert
        go_wp2_with fail
        go_ret
        exact ⟨rfl, hB⟩
end Go.Proofs.Ytpemahllpbadcaa
