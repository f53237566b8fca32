/-
  Walks over the document's answer (greatsealref07): form, May, length, bytes, Put.
-/
import Derived.Test.YtpmiihmhfagfoaaDoorR1
import Derived.Test.YtpmiihmhfagfoaaDoorDf
namespace Go.Proofs.YtpmiihmhfagfoaaDoor
open Go.RowKit

/-- What is asked of a call of form. -/
def FormOn (x : Dm.It) : Prop := ∀ (w : World) (vb vl : Value), ItP w vb vl x →
  Calls Tryd.prog 69 #[.agg #[.int .i64 x.tag, vb, vl]] w fun e w' => e = .returned (.bool (Dm.form x)) ∧ Below w.heap.size w w'

set_option maxRecDepth 100000 in
set_option maxHeartbeats 4000000 in
theorem form_of (x : Dm.It) (hP : ∀ y ∈ x.l, FormOn y) : FormOn x := by
  intro w vb vl hp
  have hm1 : x.l.length ≤ maxLen := by obtain ⟨_, _, _, q1, q2, _⟩ := hp.2.2; omega
  unfold maxLen at hm1
  obtain ⟨ab, cb, rfl⟩ := hp.2.1.shape x.b.length rfl
  obtain ⟨al, cl, rfl⟩ := hp.2.2.shape
  have hfe := form_eq x
  have hb0 := (Below.refl w.heap.size w).alloc (Nat.le_refl _) (.cells #[.int .i64 x.tag, .slice ab x.b.length cb, .slice al x.l.length cl] 25)
  have q0 := Trip.new w 25 (.int .i64 x.tag) (.slice ab x.b.length cb) (.slice al x.l.length cl)
  have hr := hp.2.1.alloc (.cells #[.int .i64 x.tag, .slice ab x.b.length cb, .slice al x.l.length cl] 25)
  have hr0 := hp.2.1
  have hq := hp.2.2
  obtain ⟨T, hT⟩ : ∃ T, x.tag = T := ⟨_, rfl⟩
  obtain ⟨nb, hnb⟩ : ∃ n, x.b.length = n := ⟨_, rfl⟩
  obtain ⟨nl, hnl⟩ : ∃ n, x.l.length = n := ⟨_, rfl⟩
  rw [hT] at hfe
  rw [hT, hnb, hnl] at q0 hb0 hr
  rw [hnb] at hr0
  rw [hnl] at hq hm1
  rw [hT, hnb, hnl]
  obtain ⟨E, hE⟩ : ∃ E, Dm.form x = E := ⟨_, rfl⟩
  rw [hE] at hfe ⊢
  have HQ := Lib.hid hq; have HP := Lib.hid hP; have HNL := Lib.hid hnl; have HNB := Lib.hid hnb; have HF := Lib.hid hfe; have HR := Lib.hid hr; have HB0 := Lib.hid hb0; have Q0 := Lib.hid q0; have HR0 := Lib.hid hr0
  clear hT hnb hq hP hp hnl hfe hE hr hb0 q0 hr0
  by_cases h48 : T = 48
  · subst h48
    have hfe := HF.out
    rw [show (decide ((48 : Int) = 48) || x.l.isEmpty) = true from rfl, Bool.true_and, show Dm.mayB 48 x.b = x.b.isEmpty from rfl] at hfe
    have HF2 := Lib.hid hfe
    clear hfe HF
    go_enter Tryd.func69, Tryd.ntmps69
    go_wp2_with fail
    go_loopw [3] (fun i wr => ∃ k : Nat, i = .int .i64 k ∧ k ≤ nl ∧ Dm.forms x.l = Dm.forms (x.l.drop k) ∧ Trip wr w.heap.size 25 (.int .i64 48) (.slice ab nb cb) (.slice al nl cl) ∧ Below w.heap.size w wr) (fun i _ => nl - (intOf i).toNat)
    case atStart => exact ⟨0, rfl, Nat.zero_le _, rfl, Q0.out, HB0.out⟩
    case round =>
      obtain ⟨k, rfl, hk, heq, hd, hb⟩ := hrel
      have k0 : (0 : Int) ≤ (k : Int) := by omega
      have c0 := hd.cell0; have c1 := hd.cell1; have c2 := hd.cell2
      have HDd := Lib.hid hd
      clear hd
      by_cases hlt : k < nl
      · have k1 : (k : Int) < (nl : Int) := by omega
        have e1 : IntKind.i64.wrap ((k : Int) + 1) = (k : Int) + 1 := IntWalk.i64_in _ (by omega)
        have hltl : k < x.l.length := by rw [HNL.out]; exact hlt
        have hdr := forms_drop hltl
        obtain ⟨b, off, ab2, cb2, al2, cl2, rfl, hbl, x0, x1, x2, hpy⟩ := HQ.out.at_ k hltl
        have x0 := (hb.cell (p := ⟨b, _, none⟩) hbl).trans x0
        have x1 := (hb.cell (p := ⟨b, _, none⟩) hbl).trans x1
        have x2 := (hb.cell (p := ⟨b, _, none⟩) hbl).trans x2
        have hmem : x.l[k]?.getD Dm.no ∈ x.l := by rw [List.getElem?_eq_getElem hltl]; exact List.getElem_mem hltl
        obtain ⟨y, hy⟩ : ∃ y, x.l[k]?.getD Dm.no = y := ⟨_, rfl⟩
        rw [hy] at x0 x1 x2 hpy hdr hmem
        have hC := HP.out y hmem wr _ _ (hpy.below hb)
        obtain ⟨Y, hY⟩ : ∃ Y, Dm.form y = Y := ⟨_, rfl⟩
        rw [hY] at hC hdr
        rw [hdr] at heq
        have HEq := Lib.hid heq; have HBb := Lib.hid hb
        clear heq hY hy hmem hpy hdr hb
        go_wp2_with fail
        refine hC.mono ?_; rintro e w3 ⟨rfl, hb3⟩
        have hB3 := HBb.out.trans (hb3.mono HBb.out.size)
        have q3 := trip_stp HDd.out hb3
        clear hC hb3 x0 x1 x2 c0 c1 c2
        cases Y with
        | false =>
          go_wp2_with fail
          go_ret
          exact ⟨by rw [HF2.out, HEq.out]; simp, hB3⟩
        | true =>
          have heq2 : Dm.forms x.l = Dm.forms (x.l.drop (k + 1)) := by rw [HEq.out]; rfl
          have HEq2 := Lib.hid heq2
          clear heq2
          go_wp2_with fail
          go_roundw
          case rel => exact ⟨k + 1, by go_num, by omega, HEq2.out, q3, hB3⟩
          case measure => simp [intOf]; omega
      · obtain rfl : k = nl := by omega
        have hdn : x.l.drop k = [] := List.drop_eq_nil_of_le (by rw [HNL.out]; exact Nat.le_refl _)
        rw [hdn] at heq
        have hfin : E = x.b.isEmpty := by rw [HF2.out, heq]; simp [Dm.forms]
        have HFin := Lib.hid hfin
        have hln := HNB.out
        clear heq hdn hfin
        by_cases h0 : nb = 0
        · have he : x.b.isEmpty = true := by rw [List.isEmpty_iff]; exact List.eq_nil_of_length_eq_zero (by omega)
          have HEm := Lib.hid he
          subst h0
          clear hln he
          go_wp2_with fail
          go_ret
          exact ⟨by rw [HFin.out, HEm.out]; rfl, hb⟩
        · have he : x.b.isEmpty = false := by
            cases hxb : x.b with
            | nil => rw [hxb] at hln; simp at hln; omega
            | cons _ _ => rfl
          have HEm := Lib.hid he
          have h0' : ((nb : Int) == 0) = false := beq_eq_false_iff_ne.2 (by omega)
          clear hln he
          go_wp2_with fail
          go_ret
          exact ⟨by rw [HFin.out, HEm.out]; rfl, hb⟩
  have h48' : (T == 48) = false := beq_eq_false_iff_ne.2 h48
  have h48n : (T != 48) = true := by simpa using h48
  have hfe := HF.out
  rw [decide_eq_false h48, Bool.false_or] at hfe
  by_cases hl0 : nl = 0
  case neg =>
    have he : x.l.isEmpty = false := by
      cases hxb : x.l with
      | nil => have := HNL.out; rw [hxb] at this; simp at this; omega
      | cons _ _ => rfl
    rw [he, Bool.false_and, Bool.false_and] at hfe
    have hE := Lib.hid hfe
    have hp : (0 : Int) < (nl : Int) := by omega
    clear hfe he
    go_enter Tryd.func69, Tryd.ntmps69
    go_wp2_with fail
    go_ret
    exact ⟨by rw [hE.out]; rfl, HB0.out⟩
  have hxl : x.l = [] := List.eq_nil_of_length_eq_zero (by rw [HNL.out]; exact hl0)
  rw [hxl, show ([] : List Dm.It).isEmpty = true from rfl, Bool.true_and, show Dm.forms [] = true by rfl, Bool.and_true] at hfe
  subst hl0
  have HE := Lib.hid hfe
  clear hfe hxl HF
  by_cases h1 : T = 1
  · subst h1
    have hmb : Dm.mayB 1 x.b = (decide (x.b = [0]) || decide (x.b = [255])) := rfl
    rw [hmb] at HE
    by_cases hn : nb = 1
    · obtain ⟨y, hy⟩ : ∃ y, x.b = [y] := List.length_eq_one_iff.1 (by rw [HNB.out]; exact hn)
      obtain ⟨b, off, rfl, hlb, cy⟩ := HR0.out.cellAt 0 (by rw [hy]; simp)
      rw [hy] at cy HE
      simp only [List.getElem?_cons_zero, Option.getD_some, Nat.add_zero] at cy
      subst hn
      have hEq : E = (decide (y = 0) || decide (y = 255)) := by rw [HE.out]; simp
      have HEq := Lib.hid hEq
      clear hEq hmb hy
      by_cases hy0 : y = 0
      · subst hy0
        go_enter Tryd.func69, Tryd.ntmps69
        go_wp2_with fail
        go_ret
        exact ⟨by rw [HEq.out]; rfl, HB0.out⟩
      · have hy0' : (y == 0) = false := beq_eq_false_iff_ne.2 hy0
        rw [decide_eq_false hy0, Bool.false_or] at HEq
        by_cases hy2 : y = 255
        · subst hy2
          go_enter Tryd.func69, Tryd.ntmps69
          go_wp2_with fail
          go_ret
          exact ⟨by rw [HEq.out]; rfl, HB0.out⟩
        · have hy2' : (y == 255) = false := beq_eq_false_iff_ne.2 hy2
          rw [decide_eq_false hy2] at HEq
          go_enter Tryd.func69, Tryd.ntmps69
          go_wp2_with fail
          go_ret
          exact ⟨by rw [HEq.out]; rfl, HB0.out⟩
    · have hEq : E = false := by
        rw [HE.out, decide_eq_false (fun h => hn (by rw [← HNB.out, h]; rfl)), decide_eq_false (fun h => hn (by rw [← HNB.out, h]; rfl))]; rfl
      have HEq := Lib.hid hEq
      have hn' : ((nb : Int) == 1) = false := beq_eq_false_iff_ne.2 (by omega)
      clear hEq hmb
      go_enter Tryd.func69, Tryd.ntmps69
      go_wp2_with fail
      go_ret
      exact ⟨by rw [HEq.out]; rfl, HB0.out⟩
  have h1' : (T == 1) = false := beq_eq_false_iff_ne.2 h1
  by_cases h2 : T = 2
  · subst h2
    have hC := rLeast_any _ x.b _ HR.out
    have hEq : E = Dm.least x.b := HE.out
    rw [← hEq] at hC
    clear hEq
    go_enter Tryd.func69, Tryd.ntmps69
    go_wp2_with fail
    refine hC.mono ?_; rintro e w' ⟨rfl, rfl⟩
    clear hC
    go_wp2_with fail
    go_ret
    exact ⟨rfl, HB0.out⟩
  have h2' : (T == 2) = false := beq_eq_false_iff_ne.2 h2
  by_cases h4 : T = 4
  · subst h4
    go_enter Tryd.func69, Tryd.ntmps69
    go_wp2_with fail
    go_ret
    exact ⟨by rw [HE.out]; rfl, HB0.out⟩
  have h4' : (T == 4) = false := beq_eq_false_iff_ne.2 h4
  by_cases h12 : T = 12
  · subst h12
    have hC := rText_any _ x.b _ HR.out
    have hEq : E = isText x.b := HE.out
    rw [← hEq] at hC
    clear hEq
    go_enter Tryd.func69, Tryd.ntmps69
    go_wp2_with fail
    refine hC.mono ?_; rintro e w' ⟨rfl, rfl⟩
    clear hC
    go_wp2_with fail
    go_ret
    exact ⟨rfl, HB0.out⟩
  have h12' : (T == 12) = false := beq_eq_false_iff_ne.2 h12
  have hEq : E = false := by
    rw [HE.out]; unfold Dm.mayB
    rw [if_neg h1, if_neg h2, if_neg h4, if_neg h12, if_neg h48]
  have HEq := Lib.hid hEq
  clear hEq
  go_enter Tryd.func69, Tryd.ntmps69
  go_wp2_with fail
  go_ret
  exact ⟨by rw [HEq.out]; rfl, HB0.out⟩
theorem form_le : ∀ (n : Nat) (x : Dm.It), Dm.wt x ≤ n → FormOn x
  | 0, x, h => by have := Dm.wt_eq x; omega
  | n + 1, x, h => form_of x fun y hy => form_le n y (by have := Dm.wt_eq x; have := Dm.wts_mem hy; omega)
theorem Form_any (x : Dm.It) : FormOn x := form_le _ x (Nat.le_refl _)

set_option maxRecDepth 100000 in
theorem rMay_any (x : Dm.It) (vb vl : Value) (w : World) (hp : ItP w vb vl x) (hwt : Dm.wt x ≤ 2000000) :
    Calls Tryd.prog 45 #[.agg #[.int .i64 x.tag, vb, vl]] w fun e w' => e = .returned (.bool (Dm.may 8 x)) ∧ Below w.heap.size w w' := by
  obtain ⟨ab, cb, rfl⟩ := hp.2.1.shape x.b.length rfl
  obtain ⟨al, cl, rfl⟩ := hp.2.2.shape
  have hb0 := (Below.refl w.heap.size w).alloc (Nat.le_refl _) (.cells #[.int .i64 x.tag, .slice ab x.b.length cb, .slice al x.l.length cl] 25)
  have q0 := Trip.new w 25 (.int .i64 x.tag) (.slice ab x.b.length cb) (.slice al x.l.length cl)
  have hC := Form_any x _ _ _ (hp.alloc (.cells #[.int .i64 x.tag, .slice ab x.b.length cb, .slice al x.l.length cl] 25))
  have hm := Dm.may_form x 8
  have HB0 := Lib.hid hb0; have Q0 := Lib.hid q0; have HP := Lib.hid hp; have HM := Lib.hid hm
  clear hb0 q0 hp hm
  obtain ⟨F, hF⟩ : ∃ F, Dm.form x = F := ⟨_, rfl⟩
  rw [hF] at hC HM
  clear hF
  go_enter Tryd.func45, Tryd.ntmps45
  go_wp2_with fail
  refine hC.mono ?_; rintro e w1 ⟨rfl, hb⟩
  have hB1 := HB0.out.trans (hb.mono HB0.out.size)
  have q1 := trip_stp Q0.out hb
  have c0 := q1.cell0; have c1 := q1.cell1; have c2 := q1.cell2
  have HB1 := Lib.hid hB1
  clear hC hb q1 hB1
  cases F with
  | false =>
    go_wp2_with fail
    go_ret
    exact ⟨by rw [HM.out]; rfl, HB1.out⟩
  | true =>
    have hC2 := Deep_any x w1 _ _ (HP.out.below HB1.out) hwt
    have hle : decide ((Dm.deep x : Int) ≤ 8) = decide (Dm.deep x ≤ 8) := decide_eq_decide.2 (by omega)
    have HLe := Lib.hid hle
    clear hle
    go_wp2_with fail
    refine hC2.mono ?_; rintro e w2 ⟨rfl, hb⟩
    have hB2 := HB1.out.trans (hb.mono HB1.out.size)
    clear hC2 hb
    go_wp2_with fail
    go_ret
    exact ⟨by rw [HM.out, Bool.true_and, ← HLe.out]; rfl, hB2⟩
end Go.Proofs.YtpmiihmhfagfoaaDoor
