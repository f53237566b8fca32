/-
  Walks over revoke.Check, Add, Revoke, Gone.
-/
import Derived.Test.YtikgdpfnpcfkkaaGreatDoorVc
import Derived.Test.YtikgdpfnpcfkkaaGreatDoorYb
namespace Go.Proofs.YtikgdpfnpcfkkaaGreatDoor
open Go.RowKit

/-- All of the first k are in. -/
def KnownTo (live gone : List Int) (k : Nat) : Prop := ∀ i, i < k → gone[i]?.getD 0 ∈ live
theorem known_all {live gone : List Int} (h : KnownTo live gone gone.length) : ∀ x ∈ gone, x ∈ live := by
  intro x hx
  obtain ⟨i, hi, rfl⟩ := List.getElem_of_mem hx
  have := h i hi
  rwa [List.getElem?_eq_getElem hi] at this

set_option maxRecDepth 100000 in
set_option maxHeartbeats 2000000 in
theorem RCheck_any (vl vg : Value) (live gone : List Int) (w : World) (h : Row .i64 w vl live) (hg : Row .i64 w vg gone) (hl : live.length ≤ 1000000) (hgl : gone.length ≤ 1000000) :
    Calls Tryz.prog 15 #[.agg #[vl, vg]] w fun e w' => e = .returned (.int .i64 (Rv.chk live gone)) ∧ Below w.heap.size w w' := by
  obtain ⟨al, cl, rfl⟩ := h.shape live.length rfl
  obtain ⟨ag, cg, rfl⟩ := hg.shape gone.length rfl
  obtain ⟨B, hB⟩ : ∃ B, w.heap.size = B := ⟨_, rfl⟩
  have q0 := Duo.new w 24 (.slice al live.length cl) (.slice ag gone.length cg)
  have hb0 := (Below.refl w.heap.size w).alloc (Nat.le_refl _) (.cells #[.slice al live.length cl, .slice ag gone.length cg] 24)
  have r0 := h.alloc (.cells #[.slice al live.length cl, .slice ag gone.length cg] 24)
  have s0 := hg.alloc (.cells #[.slice al live.length cl, .slice ag gone.length cg] 24)
  rw [hB] at q0
  have HB := Lib.hid hB
  have R0 := Lib.hid r0; have S0 := Lib.hid s0
  clear h hg r0 s0 hB
  obtain ⟨x, hx⟩ : ∃ x, decide (Rv.rises live) = x := ⟨_, rfl⟩
  obtain ⟨y, hy⟩ : ∃ y, decide (Rv.rises gone) = y := ⟨_, rfl⟩
  have HX := Lib.hid hx; have HY := Lib.hid hy
  clear hx hy
  have c0 := q0.cell0; have c1 := q0.cell1
  cases x with
  | false =>
    have hf : Rv.chk live gone = 1 := by unfold Rv.chk; rw [if_neg (fun h => by have := decide_eq_true h.1; rw [HX.out] at this; cases this)]
    rw [hf]
    clear hf
    go_enter Tryz.func15, Tryz.ntmps15
    go_wp2_with fail
    (try rw [HB.out])
    go_wp2_with fail
    refine (rises_any _ live _ R0.out hl).mono ?_; rintro e w1 ⟨rfl, hb1⟩
    rw [HX.out]
    have hB1 := hb0.trans (hb1.mono hb0.size)
    clear hb1
    go_wp2_with fail
    go_ret
    exact ⟨rfl, hB1⟩
  | true =>
    cases y with
    | false =>
      have hf : Rv.chk live gone = 1 := by unfold Rv.chk; rw [if_neg (fun h => by have := decide_eq_true h.2.1; rw [HY.out] at this; cases this)]
      rw [hf]
      clear hf
      go_enter Tryz.func15, Tryz.ntmps15
      go_wp2_with fail
      (try rw [HB.out])
      go_wp2_with fail
      refine (rises_any _ live _ R0.out hl).mono ?_; rintro e w1 ⟨rfl, hb1⟩
      rw [HX.out]
      have hB1 := hb0.trans (hb1.mono hb0.size)
      have q1 := q0.stp hb1
      have S1 := Lib.hid (S0.out.below hb1)
      clear hb1 c0 c1
      have c0 := q1.cell0; have c1 := q1.cell1
      go_wp2_with fail
      refine (rises_any _ gone _ S1.out hgl).mono ?_; rintro e w2 ⟨rfl, hb2⟩
      rw [HY.out]
      have hB2 := hB1.trans (hb2.mono hB1.size)
      clear hb2 c0 c1
      go_wp2_with fail
      go_ret
      exact ⟨rfl, hB2⟩
    | true =>
      go_enter Tryz.func15, Tryz.ntmps15
      go_wp2_with fail
      (try rw [HB.out])
      go_wp2_with fail
      refine (rises_any _ live _ R0.out hl).mono ?_; rintro e w1 ⟨rfl, hb1⟩
      rw [HX.out]
      have hB1 := hb0.trans (hb1.mono hb0.size)
      have q1 := q0.stp hb1
      have R1 := Lib.hid (R0.out.below hb1); have S1 := Lib.hid (S0.out.below hb1)
      clear hb1 c0 c1
      have c0 := q1.cell0; have c1 := q1.cell1
      go_wp2_with fail
      refine (rises_any _ gone _ S1.out hgl).mono ?_; rintro e w2 ⟨rfl, hb2⟩
      rw [HY.out]
      have hB2 := hB1.trans (hb2.mono hB1.size)
      have q2 := q1.stp hb2
      have R2 := Lib.hid (R1.out.below hb2); have S2 := Lib.hid (S1.out.below hb2)
      clear hb2 c0 c1
      have c0 := q2.cell0; have c1 := q2.cell1
      go_wp2_with fail
      refine (in_any al live.length cl w2).mono ?_; rintro e w3 ⟨rfl, hw3⟩
      obtain ⟨D, hD⟩ : ∃ D, w2.heap.size = D := ⟨_, rfl⟩
      have b3 := Boxed.new w2 22 (.slice al live.length cl)
      rw [hw3, hD] at b3
      rw [hD]
      have hb3 : Below w2.heap.size w2 w3 := by rw [← hw3]; exact (Below.refl _ _).alloc (Nat.le_refl _) _
      have hB3 := hB2.trans (hb3.mono hB2.size)
      have q3 := q2.stp hb3
      have R3 := Lib.hid (R2.out.below hb3); have S3 := Lib.hid (S2.out.below hb3)
      clear hw3 hD hb3 c0 c1
      have c0 := q3.cell0; have c1 := q3.cell1
      have l1 : Rv.rises live := of_decide_eq_true HX.out
      have l2 : Rv.rises gone := of_decide_eq_true HY.out
      have L1 := Lib.hid l1; have L2 := Lib.hid l2
      clear l1 l2
      go_wp2_with fail
      go_loopw [5, 22] (fun _ i wr => ∃ k : Nat, i = .int .i64 k ∧ k ≤ gone.length ∧ KnownTo live gone k ∧ Below w3.heap.size w3 wr) (fun _ i _ => gone.length - (intOf i).toNat)
      case atStart => exact ⟨0, rfl, Nat.zero_le _, fun i hi => absurd hi (Nat.not_lt_zero _), Below.refl _ _⟩
      case round =>
        obtain ⟨k, rfl, hk, hKn, hb⟩ := hrel
        have HK := Lib.hid hKn
        have k0 : (0 : Int) ≤ (k : Int) := by omega
        have e1 : IntKind.i64.wrap ((k : Int) + 1) = (k : Int) + 1 := IntWalk.i64_in _ (by omega)
        have hBr := hB3.trans (hb.mono hB3.size)
        clear hKn c0 c1
        by_cases hlt : k < gone.length
        · obtain ⟨_, _, e', _, _, _, _, h5⟩ := S3.out.below hb
          cases e'
          obtain ⟨bg, og, rfl, hbg, hcg⟩ := h5 (by rintro rfl; simp at hlt)
          have hck := hcg k hlt
          obtain ⟨z, hz⟩ : ∃ z, gone[k]?.getD 0 = z := ⟨_, rfl⟩
          rw [hz] at hck
          have HZ := Lib.hid hz
          have k1 : (k : Int) < (gone.length : Int) := by omega
          have hI := in1_any z _ live D wr (cboxed_stp b3 hb) (R3.out.below hb) hl L1.out.2
          clear hcg h5 hz
          by_cases hm : z ∈ live
          · rw [decide_eq_true hm] at hI
            have HM := Lib.hid hm
            clear hm
            go_wp2_with fail
            refine hI.mono ?_; rintro e w4 ⟨rfl, hb4⟩
            have hb5 := hb.trans (hb4.mono hb.size)
            clear hI hb4 hck hBr
            go_wp2_with fail
            go_roundw
            case rel =>
              refine ⟨k + 1, by go_num, by omega, fun i hi => ?_, hb5⟩
              rcases Nat.lt_or_ge i k with h | h
              · exact HK.out i h
              · obtain rfl : i = k := by omega
                rw [HZ.out]; exact HM.out
            case measure => simp [intOf]; omega
          · rw [decide_eq_false hm] at hI
            have hf : Rv.chk live gone = 1 := by
              unfold Rv.chk
              rw [if_neg]
              intro h
              refine hm (h.2.2 z ?_)
              have := HZ.out
              rw [List.getElem?_eq_getElem hlt] at this
              rw [← this]; exact List.getElem_mem hlt
            have HF := Lib.hid hf
            clear hm hf
            go_wp2_with fail
            refine hI.mono ?_; rintro e w4 ⟨rfl, hb4⟩
            have hb5 := hBr.trans (hb4.mono hBr.size)
            clear hI hb4 hck hBr
            go_wp2_with fail
            go_ret
            rw [HF.out]
            exact ⟨rfl, hb5⟩
        · obtain rfl : k = gone.length := by omega
          have hfit : Rv.fits live gone := ⟨L1.out, L2.out, known_all HK.out⟩
          have q4 := q3.stp hb
          have c0 := q4.cell0; have c1 := q4.cell1
          by_cases hn : live.length ≤ 256
          · have hf : Rv.chk live gone = 0 := by unfold Rv.chk; rw [if_pos hfit, if_pos hn]
            have HF := Lib.hid hf
            clear hfit hf
            go_wp2_with fail
            go_ret
            rw [HF.out]
            exact ⟨rfl, hBr⟩
          · have hf : Rv.chk live gone = 2 := by unfold Rv.chk; rw [if_pos hfit, if_neg hn]
            have HF := Lib.hid hf
            clear hfit hf
            go_wp2_with fail
            go_ret
            rw [HF.out]
            exact ⟨rfl, hBr⟩

theorem RGone_any (vl vg : Value) (gone : List Int) (n : Int) (w : World) (ll : Nat) (al : Option Addr) (cl : Nat) (hvl : vl = .slice al ll cl) (hg : Row .i64 w vg gone) (hgl : gone.length ≤ 1000000) :
    Calls Tryz.prog 14 #[.agg #[vl, vg], .int .i64 n] w fun e w' => e = .returned (.bool (decide (n ∈ gone))) ∧ Below w.heap.size w w' := by
  subst hvl
  obtain ⟨ag, cg, rfl⟩ := hg.shape gone.length rfl
  have hC := Contains_row _ gone n _ (hg.alloc (.cells #[.slice al ll cl, .slice ag gone.length cg] 24)) hgl
  obtain ⟨x, hx⟩ : ∃ x, decide (n ∈ gone) = x := ⟨_, rfl⟩
  rw [hx] at hC ⊢
  clear hx hg
  go_enter Tryz.func14, Tryz.ntmps14
  go_wp2_with fail
  refine hC.mono ?_; rintro e w1 ⟨rfl, rfl⟩
  go_wp2_with fail
  go_ret
  exact ⟨rfl, (Below.refl _ _).alloc (Nat.le_refl _) _⟩
end Go.Proofs.YtikgdpfnpcfkkaaGreatDoor
