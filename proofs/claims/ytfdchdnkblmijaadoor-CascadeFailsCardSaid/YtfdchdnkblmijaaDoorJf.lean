/-
  The walk over CascadeFails. (Printed by wip/gen_l10.py.)
-/
import Derived.Test.YtfdchdnkblmijaaDoorJa
import Derived.Test.YtfdchdnkblmijaaDoorJr
import Derived.Deep.QuietTactic
import Derived.BigQuiet
namespace Go.Proofs.YtfdchdnkblmijaaDoor
open Go.RowKit Go.Sort

/-- Of the first k numbers one stands on the other side. -/
def B1 (ins outs : List Int) (k : Nat) : Bool := decide (∃ x, x ∈ ins.take k ∧ x ∈ outs)
def B2 (ins outs : List Int) (k m : Nat) : Bool := decide ((∃ x, x ∈ ins.take k ∧ x ∈ outs) ∨ ins[k]?.getD 0 ∈ outs.take m)
theorem take_one {l : List Int} {k : Nat} (h : k < l.length) : l.take (k + 1) = l.take k ++ [l[k]?.getD 0] := by
  rw [List.take_succ_eq_append_getElem h, List.getElem?_eq_getElem h]; rfl
theorem B2_zero (ins outs : List Int) (k : Nat) : B2 ins outs k 0 = B1 ins outs k := by unfold B2 B1; simp
theorem B2_step {ins outs : List Int} {k m : Nat} (hm : m < outs.length) : B2 ins outs k (m + 1) = (B2 ins outs k m || decide (ins[k]?.getD 0 = outs[m]?.getD 0)) := by
  unfold B2
  rw [take_one hm, Bool.eq_iff_iff]
  simp only [decide_eq_true_eq, Bool.or_eq_true, List.mem_append, List.mem_singleton, or_assoc]
theorem B2_all {ins outs : List Int} {k : Nat} (hk : k < ins.length) : B2 ins outs k outs.length = B1 ins outs (k + 1) := by
  unfold B2 B1
  rw [take_one hk, List.take_length, decide_eq_decide]
  constructor
  · rintro (⟨x, h1, h2⟩ | h)
    · exact ⟨x, List.mem_append_left _ h1, h2⟩
    · exact ⟨_, List.mem_append_right _ (List.mem_singleton.2 rfl), h⟩
  · rintro ⟨x, h1, h2⟩
    rcases List.mem_append.1 h1 with h1 | h1
    · exact .inl ⟨x, h1, h2⟩
    · rw [List.mem_singleton.1 h1] at h2; exact .inr h2
theorem B1_all (ins outs : List Int) : B1 ins outs ins.length = !decide (Cm.disjoint ins outs) := by
  unfold B1
  rw [List.take_length]
  by_cases hd : Cm.disjoint ins outs
  · rw [decide_eq_true hd]
    exact decide_eq_false fun h => by obtain ⟨x, h1, h2⟩ := h; exact hd x h1 h2
  · rw [decide_eq_false hd]
    refine decide_eq_true ?_
    simp only [Cm.disjoint, Classical.not_forall, Classical.not_not] at hd
    obtain ⟨x, h1, h2⟩ := hd
    exact ⟨x, h1, h2⟩
theorem disjoint_comm {ins outs : List Int} : Cm.disjoint ins outs ↔ Cm.disjoint outs ins := ⟨fun h x hx hy => h x hy hx, fun h x hx hy => h x hy hx⟩
def codeOf : Except Int (Int × List Sm.Sv) → Int
  | .error c => c
  | .ok _ => 0
theorem mk_code_arg {ins outs : List Int} {day : Int} (h : ¬ (NumOk ins ∧ NumOk outs ∧ Cm.dated day)) : codeOf (Cm.mk ins outs day) = 1 := by
  unfold Cm.mk; rw [if_neg h]; rfl
theorem mk_code_many {ins outs : List Int} {day : Int} (h : NumOk ins ∧ NumOk outs ∧ Cm.dated day) (h2 : ¬ Cm.disjoint ins outs) : codeOf (Cm.mk ins outs day) = 100 := by
  unfold Cm.mk; rw [if_pos h, if_neg h2]; rfl
theorem mk_code_ok {ins outs : List Int} {day : Int} (h : NumOk ins ∧ NumOk outs ∧ Cm.dated day) (h2 : Cm.disjoint ins outs) : codeOf (Cm.mk ins outs day) = 0 ∨ codeOf (Cm.mk ins outs day) = 2 := by
  unfold Cm.mk; rw [if_pos h, if_pos h2]
  cases Cm.build day 16 0 ins outs with
  | none => exact .inr rfl
  | some l => exact .inl rfl
/-- Make, by its code alone. -/
theorem Make_code (vi vo : Value) (ins outs : List Int) (day : Int) (w : World) (hi : Row .i64 w vi ins) (ho : Row .i64 w vo outs) (hil : ins.length ≤ 1000000) (hol : outs.length ≤ 1000000) (c : Int) (hc : codeOf (Cm.mk ins outs day) = c) :
    Calls Tryd.prog 9 #[vi, vo, .int .i64 day] w fun e w' => (∃ d a n k, e = .returned (.tuple #[.agg #[.int .i64 d, .slice a n k], .int .i64 c])) ∧ Below w.heap.size w w' := by
  refine (Make_any vi vo ins outs day w hi ho hil hol).mono ?_
  rintro e w' ⟨h, hb⟩
  refine ⟨?_, hb⟩
  revert hc h
  cases Cm.mk ins outs day with
  | error cc => intro hc h; subst hc; exact ⟨_, _, _, _, h⟩
  | ok p =>
    obtain ⟨d, ls⟩ := p
    intro hc h
    subst hc
    obtain ⟨a, k, h, -⟩ := h
    exact ⟨_, _, _, _, h⟩

set_option maxRecDepth 100000 in
set_option maxHeartbeats 8000000 in
theorem CascadeFails_any (v1 : Value) (ins : List Int) (v2 : Value) (outs : List Int) (day : Int) (w : World) (hk : KindsAt w) (h1 : Row .i64 w v1 ins) (h2 : Row .i64 w v2 outs) (_kd : (Lit.int .i64 day).wf = true) :
    Calls Tryd.prog 4 #[v1, v2, .int .i64 day] w fun e w' => e = .returned (.bool true) ∧ Below w.heap.size w w' := by
  obtain ⟨a1, c1, rfl⟩ := h1.shape ins.length rfl
  obtain ⟨a2, c2, rfl⟩ := h2.shape outs.length rfl
  obtain ⟨n1, hn1⟩ : ∃ n, ins.length = n := ⟨_, rfl⟩
  obtain ⟨n2, hn2⟩ : ∃ n, outs.length = n := ⟨_, rfl⟩
  rw [hn1] at h1 ⊢
  rw [hn2] at h2 ⊢
  have hL := live10_true w hk
  have H1 := Lib.hid h1; have H2 := Lib.hid h2; have HN1 := Lib.hid hn1; have HN2 := Lib.hid hn2; have HK := Lib.hid hk
  clear h1 h2 hn1 hn2 hk _kd
  go_enter Tryd.func4, Tryd.ntmps4
  go_wp2_with fail
  refine hL.mono ?_; rintro e w1 ⟨rfl, hb1⟩
  have HB1 := Lib.hid hb1
  clear hL
  by_cases hs1 : 30 < n1
  · have q1 : (30 : Int) < (n1 : Int) := by omega
    clear hs1
    go_wp2_with fail
    go_ret
    exact ⟨rfl, HB1.out⟩
  by_cases hs2 : 30 < n2
  · have q1 : ¬ (30 : Int) < (n1 : Int) := by omega
    have q2 : (30 : Int) < (n2 : Int) := by omega
    clear hs1 hs2
    go_wp2_with fail
    go_ret
    exact ⟨rfl, HB1.out⟩
  have q1 : ¬ (30 : Int) < (n1 : Int) := by omega
  have q2 : ¬ (30 : Int) < (n2 : Int) := by omega
  have HS1 := Lib.hid hs1; have HS2 := Lib.hid hs2
  have r1 := H1.out.below hb1; have r2 := H2.out.below hb1
  have R1 := Lib.hid r1; have R2 := Lib.hid r2
  clear hs1 hs2 hb1 r1 r2
  go_wp2_with fail
  go_loopw [8, 9, 10] (fun b i _ wr => ∃ k : Nat, b = .bool (B1 ins outs k) ∧ i = .int .i64 k ∧ k ≤ n1 ∧ Below w1.heap.size w1 wr) (fun _ i _ _ => n1 - (intOf i).toNat)
  case atStart => exact ⟨0, by simp [B1], rfl, Nat.zero_le _, Below.refl _ _⟩
  case round =>
    obtain ⟨k, rfl, rfl, hk, hb⟩ := hrel
    have HBr := Lib.hid hb
    have k0 : (0 : Int) ≤ (k : Int) := by omega
    have e1 : IntKind.i64.wrap ((k : Int) + 1) = (k : Int) + 1 := IntWalk.i64_in _ (by have := HS1.out; omega)
    by_cases hlt : k < n1
    · have k1 : (k : Int) < (n1 : Int) := by omega
      have hl1 : k < ins.length := by rw [HN1.out]; exact hlt
      have HL1 := Lib.hid hl1
      clear hb hl1
      go_wp2_with fail
      obtain ⟨wo, rfl⟩ : ∃ wo : World, wo = wr := ⟨_, rfl⟩
      go_loopw [8, 10] (fun b j wr => ∃ m : Nat, b = .bool (B2 ins outs k m) ∧ j = .int .i64 m ∧ m ≤ n2 ∧ Below w1.heap.size w1 wr) (fun _ j _ => n2 - (intOf j).toNat)
      case atStart => exact ⟨0, by rw [B2_zero], rfl, Nat.zero_le _, HBr.out⟩
      case round =>
        obtain ⟨m, rfl, rfl, hm, hb⟩ := hrel
        have HBs := Lib.hid hb
        have m0 : (0 : Int) ≤ (m : Int) := by omega
        have e2 : IntKind.i64.wrap ((m : Int) + 1) = (m : Int) + 1 := IntWalk.i64_in _ (by have := HS2.out; omega)
        by_cases hlm : m < n2
        · have m1 : (m : Int) < (n2 : Int) := by omega
          have hst := B2_step (ins := ins) (outs := outs) (k := k) (m := m) (by rw [HN2.out]; exact hlm)
          obtain ⟨b0, o0, ea, hbl, hck⟩ := (R1.out.below hb).cellAt k HL1.out
          obtain ⟨b9, o9, eb, hbl9, hcm⟩ := (R2.out.below hb).cellAt m (by rw [HN2.out]; exact hlm)
          obtain ⟨x, hx⟩ : ∃ x, ins[k]?.getD 0 = x := ⟨_, rfl⟩
          obtain ⟨y, hy⟩ : ∃ y, outs[m]?.getD 0 = y := ⟨_, rfl⟩
          rw [hx] at hck hst
          rw [hy] at hcm hst
          obtain ⟨D, hD⟩ : ∃ D, B2 ins outs k m = D := ⟨_, rfl⟩
          obtain ⟨F, hF⟩ : ∃ F, decide (x = y) = F := ⟨_, rfl⟩
          rw [hD, hF] at hst
          rw [hD]
          have HST := Lib.hid hst
          clear hb hx hy hD hst
          subst ea; subst eb
          cases D with
          | true =>
            clear hF hck hcm
            go_wp2_with fail
            go_quiet (fail)
            go_wp2_with fail
            go_roundw
            case rel => exact ⟨m + 1, by rw [HST.out]; rfl, by go_num, by omega, bel_drewN HBs.out _⟩
            case measure => simp [intOf]; omega
          | false =>
            cases F with
            | true =>
              have hxy := of_decide_eq_true hF
              clear hF
              subst hxy
              go_wp2_with fail
              go_quiet (fail)
              go_wp2_with fail
              go_roundw
              case rel => exact ⟨m + 1, by rw [HST.out]; rfl, by go_num, by omega, bel_drewN HBs.out _⟩
              case measure => simp [intOf]; omega
            | false =>
              have hxy : (x == y) = false := beq_eq_false_iff_ne.2 (of_decide_eq_false hF)
              clear hF
              go_wp2_with fail
              go_quiet (fail)
              go_wp2_with fail
              go_roundw
              case rel => exact ⟨m + 1, by rw [HST.out]; first | rfl | (simp [hxy]; done), by go_num, by omega, bel_drewN HBs.out _⟩
              case measure => simp [intOf]; omega
        · obtain rfl : m = n2 := by omega
          have hall := B2_all (ins := ins) (outs := outs) (k := k) HL1.out
          rw [HN2.out] at hall
          have HAll := Lib.hid hall
          clear hb hall hlm
          go_wp2_with fail
          go_roundw
          case rel => exact ⟨k + 1, by rw [HAll.out], by go_num, by omega, HBs.out⟩
          case measure => simp [intOf]; omega
    · obtain rfl : k = n1 := by omega
      have hall := B1_all ins outs
      rw [HN1.out] at hall
      obtain ⟨D, hD⟩ : ∃ D, decide (Cm.disjoint ins outs) = D := ⟨_, rfl⟩
      rw [hD] at hall
      rw [hall]
      obtain ⟨cA, hcA⟩ : ∃ c, codeOf (Cm.mk ins outs day) = c := ⟨_, rfl⟩
      obtain ⟨cB, hcB⟩ : ∃ c, codeOf (Cm.mk outs ins day) = c := ⟨_, rfl⟩
      have hC := Make_code (.slice a1 k c1) (.slice a2 n2 c2) ins outs day wr (R1.out.below hb) (R2.out.below hb) (by have := HN1.out; have := HS1.out; omega) (by have := HN2.out; have := HS2.out; omega) cA hcA
      have HD := Lib.hid hD; have HCA := Lib.hid hcA; have HCB := Lib.hid hcB
      clear hb hall hD hcA hcB hlt
      go_wp2_with fail
      refine hC.mono ?_; rintro e w3 ⟨⟨d3, a3, m3, c3, rfl⟩, hb3⟩
      have hb13 := HBr.out.trans (hb3.mono HBr.out.size)
      have hb4 := hb13.alloc hb13.size (.cells #[.int .i64 d3, .slice a3 m3 c3] 26)
      have hC := Make_code (.slice a2 n2 c2) (.slice a1 k c1) outs ins day _ (R2.out.below hb4) (R1.out.below hb4) (by have := HN2.out; have := HS2.out; omega) (by have := HN1.out; have := HS1.out; omega) cB HCB.out
      have HB4 := Lib.hid hb4
      clear hb13 hb3 hb4
      go_wp2_with fail
      refine hC.mono ?_; rintro e w5 ⟨⟨d5, a5, m5, c5, rfl⟩, hb5⟩
      have hb15 := HB4.out.trans (hb5.mono HB4.out.size)
      have hb6 := hb15.alloc hb15.size (.cells #[.int .i64 d5, .slice a5 m5 c5] 26)
      have hR1 := lrises_any (.slice a1 k c1) ins _ (R1.out.below hb6) (by have := HN1.out; have := HS1.out; omega)
      have HB6 := Lib.hid hb6
      clear hb15 hb5 hb6 hC
      have hno : ¬ (Rv.rises ins ∧ Rv.rises outs ∧ Cm.dated day) → cA = 1 ∧ cB = 1 := fun h => ⟨by rw [← HCA.out]; exact mk_code_arg (fun q => h ⟨q.1.1, q.2.1.1, q.2.2⟩), by rw [← HCB.out]; exact mk_code_arg (fun q => h ⟨q.2.1.1, q.1.1, q.2.2⟩)⟩
      have hyes : Rv.rises ins → Rv.rises outs → Cm.dated day → (NumOk ins ∧ NumOk outs ∧ Cm.dated day) ∧ (NumOk outs ∧ NumOk ins ∧ Cm.dated day) := fun x1 x2 x3 => by
        have y1 : NumOk ins := ⟨x1, by have := HN1.out; have := HS1.out; omega⟩
        have y2 : NumOk outs := ⟨x2, by have := HN2.out; have := HS2.out; omega⟩
        exact ⟨⟨y1, y2, x3⟩, ⟨y2, y1, x3⟩⟩
      have HNO := Lib.hid hno; have HYES := Lib.hid hyes
      clear hno hyes
      by_cases q1 : Rv.rises ins
      case neg =>
        rw [decide_eq_false q1] at hR1
        obtain ⟨rfl, rfl⟩ := HNO.out (fun h => q1 h.1)
        clear q1
        go_wp2_with fail
        refine hR1.mono ?_; rintro e w7 ⟨rfl, hb7⟩
        clear hR1
        go_wp2_with fail
        go_ret
        exact ⟨rfl, HB1.out.trans ((HB6.out.trans (hb7.mono HB6.out.size)).mono HB1.out.size)⟩
      rw [decide_eq_true q1] at hR1
      have Q1 := Lib.hid q1
      clear q1
      go_wp2_with fail
      refine hR1.mono ?_; rintro e w7 ⟨rfl, hb7⟩
      have hb17 := HB6.out.trans (hb7.mono HB6.out.size)
      have hR2 := lrises_any (.slice a2 n2 c2) outs _ (R2.out.below hb17) (by have := HN2.out; have := HS2.out; omega)
      have HB7 := Lib.hid hb17
      clear hR1 hb7 hb17
      by_cases q2 : Rv.rises outs
      case neg =>
        rw [decide_eq_false q2] at hR2
        obtain ⟨rfl, rfl⟩ := HNO.out (fun h => q2 h.2.1)
        clear q2
        go_wp2_with fail
        refine hR2.mono ?_; rintro e w8 ⟨rfl, hb8⟩
        clear hR2
        go_wp2_with fail
        go_ret
        exact ⟨rfl, HB1.out.trans ((HB7.out.trans (hb8.mono HB7.out.size)).mono HB1.out.size)⟩
      rw [decide_eq_true q2] at hR2
      have Q2 := Lib.hid q2
      clear q2
      go_wp2_with fail
      refine hR2.mono ?_; rintro e w8 ⟨rfl, hb8⟩
      have hfin := HB1.out.trans ((HB7.out.trans (hb8.mono HB7.out.size)).mono HB1.out.size)
      have HF := Lib.hid hfin
      clear hR2 hb8 hfin
      by_cases d1 : day < 0
      · obtain ⟨rfl, rfl⟩ := HNO.out (fun h => by have := h.2.2.1; omega)
        go_wp2_with fail
        go_ret
        exact ⟨rfl, HF.out⟩
      by_cases d2 : 68719476736 ≤ day
      · obtain ⟨rfl, rfl⟩ := HNO.out (fun h => by have := h.2.2.2; omega)
        go_wp2_with fail
        go_ret
        exact ⟨rfl, HF.out⟩
      obtain ⟨g1, g2⟩ := HYES.out Q1.out Q2.out ⟨by omega, by omega⟩
      cases D with
      | false =>
        have hnd := of_decide_eq_false HD.out
        have z1 := mk_code_many g1 hnd
        have z2 := mk_code_many g2 (fun h => hnd (disjoint_comm.1 h))
        rw [HCA.out] at z1
        rw [HCB.out] at z2
        clear g1 g2 hnd
        subst z1; subst z2
        go_wp2_with fail
        go_ret
        exact ⟨rfl, HF.out⟩
      | true =>
        have hnd := of_decide_eq_true HD.out
        have z1 := mk_code_ok g1 hnd
        have z2 := mk_code_ok g2 (disjoint_comm.1 hnd)
        rw [HCA.out] at z1
        rw [HCB.out] at z2
        clear g1 g2 hnd
        rcases z1 with rfl | rfl <;> rcases z2 with rfl | rfl
        all_goals
          go_wp2_with fail
          go_ret
          exact ⟨rfl, HF.out⟩
end Go.Proofs.YtfdchdnkblmijaaDoor
