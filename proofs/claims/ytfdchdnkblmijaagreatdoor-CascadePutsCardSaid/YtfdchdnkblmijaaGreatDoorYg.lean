/-
  The texts R1 R2 R3 R5 R6 R7 R8 in one. (Merged by wip/lay10m.py.)
-/
import Derived.Test.YtfdchdnkblmijaaGreatDoorDe
import Derived.Test.YtfdchdnkblmijaaGreatDoorDf
import Derived.Test.YtfdchdnkblmijaaGreatDoorYd
import Derived.Deep.CutBlock
import Derived.Deep.DeepCutAuto

section
namespace Go.Proofs.YtfdchdnkblmijaaGreatDoor
open Go.RowKit

set_option maxHeartbeats 1000000 in
theorem rLeast_any (v : Value) (l : List Int) (w : World) (h : Row .u8 w v l) :
    Calls Tryz.prog 103 #[v] w fun e w' => e = .returned (.bool (Dm.least l)) ∧ w = w' := by
  obtain ⟨a, c, rfl⟩ := h.shape l.length rfl
  match l, h with
  | [], h =>
    clear h
    go_enter Tryz.func103, Tryz.ntmps103
    go_wp2_with fail
    go_ret
    exact ⟨rfl, rfl⟩
  | [x], h =>
    clear h
    go_enter Tryz.func103, Tryz.ntmps103
    go_wp2_with fail
    go_ret
    exact ⟨rfl, rfl⟩
  | x :: y :: r, h =>
    obtain ⟨b, off, rfl, hlt, c0⟩ := h.cellAt 0 (by simp)
    obtain ⟨_, _, e', _, c1⟩ := h.cellAt 1 (by simp)
    cases e'
    simp only [List.getElem?_cons_zero, List.getElem?_cons_succ, Option.getD_some, Nat.add_zero] at c0 c1
    have hlst : Dm.least (x :: y :: r) = (decide (r.length ≤ 6) && !decide (x = if y < 128 then 0 else 255)) := rfl
    obtain ⟨n, hn⟩ : ∃ n, (x :: y :: r).length = n := ⟨_, rfl⟩
    have hr : r.length + 2 = n := by simpa using hn
    rw [hn]
    have HL := Lib.hid hlst
    clear hlst h hn
    have n1 : ¬ (n : Int) < 1 := by omega
    have n2 : ((n : Int) == 1) = false := beq_eq_false_iff_ne.2 (by omega)
    have n3 : (1 : Int) < (n : Int) := by omega
    have n4 : (0 : Int) < (n : Int) := by omega
    by_cases h8 : (8 : Int) < (n : Int)
    · have hE : Dm.least (x :: y :: r) = false := by rw [HL.out, decide_eq_false (show ¬ r.length ≤ 6 by omega)]; rfl
      have HE := Lib.hid hE
      clear hE hr
      go_enter Tryz.func103, Tryz.ntmps103
      go_wp2_with fail
      go_ret
      exact ⟨by rw [HE.out]; rfl, rfl⟩
    have h6 : decide (r.length ≤ 6) = true := decide_eq_true (by omega)
    rw [h6, Bool.true_and] at HL
    clear h6 hr
    by_cases hy : y < 128
    · rw [if_pos hy] at HL
      by_cases hx0 : x = 0
      · subst hx0
        go_enter Tryz.func103, Tryz.ntmps103
        go_wp2_with fail
        go_ret
        exact ⟨by rw [HL.out]; rfl, rfl⟩
      · rw [decide_eq_false hx0] at HL
        have hx1 : (x == 0) = false := beq_eq_false_iff_ne.2 hx0
        have hy2 : ¬ 128 ≤ y := by omega
        by_cases hx2 : x = 255
        · subst hx2
          go_enter Tryz.func103, Tryz.ntmps103
          go_wp2_with fail
          go_ret
          exact ⟨by rw [HL.out]; rfl, rfl⟩
        · have hx3 : (x == 255) = false := beq_eq_false_iff_ne.2 hx2
          go_enter Tryz.func103, Tryz.ntmps103
          go_wp2_with fail
          go_ret
          exact ⟨by rw [HL.out]; rfl, rfl⟩
    · rw [if_neg hy] at HL
      have hy2 : 128 ≤ y := by omega
      by_cases hx2 : x = 255
      · subst hx2
        go_enter Tryz.func103, Tryz.ntmps103
        go_wp2_with fail
        go_ret
        exact ⟨by rw [HL.out]; rfl, rfl⟩
      · rw [decide_eq_false hx2] at HL
        have hx3 : (x == 255) = false := beq_eq_false_iff_ne.2 hx2
        by_cases hx0 : x = 0
        · subst hx0
          go_enter Tryz.func103, Tryz.ntmps103
          go_wp2_with fail
          go_ret
          exact ⟨by rw [HL.out]; rfl, rfl⟩
        · have hx1 : (x == 0) = false := beq_eq_false_iff_ne.2 hx0
          go_enter Tryz.func103, Tryz.ntmps103
          go_wp2_with fail
          go_ret
          exact ⟨by rw [HL.out]; rfl, rfl⟩

def isText (l : List Int) : Bool := l.all fun c => decide (32 ≤ c) && decide (c ≤ 126)
theorem mayB_text (l : List Int) : Dm.mayB 12 l = isText l := rfl
theorem isText_drop {l : List Int} {k : Nat} (hk : k < l.length) : isText (l.drop k) = ((decide (32 ≤ l[k]?.getD 0) && decide (l[k]?.getD 0 ≤ 126)) && isText (l.drop (k + 1))) := by
  rw [List.drop_eq_getElem_cons hk, List.getElem?_eq_getElem hk]; rfl
set_option maxHeartbeats 1000000 in
theorem rText_any (v : Value) (l : List Int) (w : World) (h : Row .u8 w v l) :
    Calls Tryz.prog 104 #[v] w fun e w' => e = .returned (.bool (isText l)) ∧ w = w' := by
  have hm1 : l.length ≤ maxLen := by obtain ⟨_, _, _, q1, q2, _⟩ := h; omega
  unfold maxLen at hm1
  obtain ⟨a, c, rfl⟩ := h.shape l.length rfl
  obtain ⟨n, hn⟩ : ∃ n, l.length = n := ⟨_, rfl⟩
  rw [hn] at hm1 h ⊢
  have HR := Lib.hid h; have HN := Lib.hid hn
  clear h hn
  go_enter Tryz.func104, Tryz.ntmps104
  go_wp2_with fail
  go_loopw [3] (fun i wr => ∃ k : Nat, i = .int .i64 k ∧ k ≤ n ∧ isText l = isText (l.drop k) ∧ w = wr) (fun i _ => n - (intOf i).toNat)
  case atStart => exact ⟨0, rfl, Nat.zero_le _, rfl, rfl⟩
  case round =>
    obtain ⟨k, rfl, hk, heq, rfl⟩ := hrel
    have k0 : (0 : Int) ≤ (k : Int) := by omega
    by_cases hlt : k < n
    · have k1 : (k : Int) < (n : Int) := by omega
      have e1 : IntKind.i64.wrap ((k : Int) + 1) = (k : Int) + 1 := IntWalk.i64_in _ (by omega)
      have hst := isText_drop (l := l) (k := k) (by rw [HN.out]; exact hlt)
      obtain ⟨b, off, rfl, hlb, cx⟩ := HR.out.cellAt k (by rw [HN.out]; exact hlt)
      obtain ⟨x, hx⟩ : ∃ x, l[k]?.getD 0 = x := ⟨_, rfl⟩
      rw [hx] at hst cx
      rw [hst] at heq
      clear hst hx
      by_cases h1 : 32 ≤ x
      · have h1' : ¬ x < 32 := by omega
        by_cases h2 : x ≤ 126
        · have h2' : ¬ 126 < x := by omega
          rw [decide_eq_true h1, decide_eq_true h2] at heq
          have HEq := Lib.hid heq
          clear heq
          go_wp2_with fail
          go_roundw
          case rel => exact ⟨k + 1, by go_num, by omega, HEq.out, trivial⟩
          case measure => simp [intOf]; omega
        · have h2' : 126 < x := by omega
          rw [decide_eq_false h2] at heq
          have HEq := Lib.hid heq
          clear heq
          go_wp2_with fail
          go_ret
          exact ⟨by rw [HEq.out]; simp, rfl⟩
      · have h1' : x < 32 := by omega
        rw [decide_eq_false h1] at heq
        have HEq := Lib.hid heq
        clear heq
        go_wp2_with fail
        go_ret
        exact ⟨by rw [HEq.out]; simp, rfl⟩
    · obtain rfl : k = n := by omega
      rw [List.drop_eq_nil_of_le (by rw [HN.out]; exact Nat.le_refl _)] at heq
      have HEq := Lib.hid heq
      clear heq
      go_wp2_with fail
      go_ret
      exact ⟨by rw [HEq.out]; rfl, rfl⟩

/-- What is asked of a call of Deep. -/
def DeepOn (x : Dm.It) : Prop := ∀ (w : World) (vb vl : Value), ItP w vb vl x → Dm.wt x ≤ 2000000 →
  Calls Tryz.prog 85 #[.agg #[.int .i64 x.tag, vb, vl]] w fun e w' => e = .returned (.int .i64 (Dm.deep x)) ∧ Below w.heap.size w w'
mutual
theorem deep_wt : ∀ x : Dm.It, Dm.deep x ≤ Dm.wt x
  | .mk t b l => by
    unfold Dm.deep Dm.wt
    have := deeps_wts l
    omega
theorem deeps_wts : ∀ l : List Dm.It, Dm.deeps l ≤ Dm.wts l
  | [] => by simp [Dm.deeps]
  | x :: l => by
    unfold Dm.deeps Dm.wts
    have := deep_wt x
    have := deeps_wts l
    omega
end
theorem deep_eq (x : Dm.It) : Dm.deep x = Dm.deeps x.l + 1 := by cases x; rw [Dm.deep]; rfl
theorem deeps_drop {l : List Dm.It} {k : Nat} (hk : k < l.length) : Dm.deeps (l.drop k) = max (Dm.deep (l[k]?.getD Dm.no)) (Dm.deeps (l.drop (k + 1))) := by
  rw [List.drop_eq_getElem_cons hk, List.getElem?_eq_getElem hk, Dm.deeps]; rfl
theorem forms_drop {l : List Dm.It} {k : Nat} (hk : k < l.length) : Dm.forms (l.drop k) = (Dm.form (l[k]?.getD Dm.no) && Dm.forms (l.drop (k + 1))) := by
  rw [List.drop_eq_getElem_cons hk, List.getElem?_eq_getElem hk, Dm.forms]; rfl

set_option maxRecDepth 100000 in
set_option maxHeartbeats 2000000 in
theorem deep_of (x : Dm.It) (hP : ∀ y ∈ x.l, DeepOn y) : DeepOn x := by
  intro w vb vl hp hwt
  obtain ⟨ab, cb, rfl⟩ := hp.2.1.shape x.b.length rfl
  obtain ⟨al, cl, rfl⟩ := hp.2.2.shape
  have hwe := Dm.wt_eq x
  have hlen := Dm.wts_len x.l
  have hdw := deeps_wts x.l
  rw [deep_eq]
  have q0 := Trip.new w 45 (.int .i64 x.tag) (.slice ab x.b.length cb) (.slice al x.l.length cl)
  have hb0 := (Below.refl w.heap.size w).alloc (Nat.le_refl _) (.cells #[.int .i64 x.tag, .slice ab x.b.length cb, .slice al x.l.length cl] 45)
  obtain ⟨T, hT⟩ : ∃ T, x.tag = T := ⟨_, rfl⟩
  obtain ⟨nb, hnb⟩ : ∃ n, x.b.length = n := ⟨_, rfl⟩
  obtain ⟨nl, hnl⟩ : ∃ n, x.l.length = n := ⟨_, rfl⟩
  have hq := hp.2.2
  rw [hT, hnb, hnl] at q0 hb0
  rw [hnl] at hlen hq
  rw [hT, hnb, hnl]
  have lnl : nl ≤ 2000000 := by omega
  have hdl : Dm.deeps x.l ≤ 2000000 := by omega
  obtain ⟨D, hD⟩ : ∃ D, Dm.deeps x.l = D := ⟨_, rfl⟩
  rw [hD] at hdl ⊢
  have HQ := Lib.hid hq; have HP := Lib.hid hP; have HNL := Lib.hid hnl; have HD := Lib.hid hD; have HW := Lib.hid (show Dm.wts x.l ≤ 2000000 by omega)
  clear hT hnb hq hP hp hwe hwt hlen hnl hD hdw
  go_enter Tryz.func85, Tryz.ntmps85
  go_wp2_with fail
  go_loopw [3, 4] (fun n i wr => ∃ m k : Nat, n = .int .i64 m ∧ i = .int .i64 k ∧ k ≤ nl ∧ D = max m (Dm.deeps (x.l.drop k)) ∧ Trip wr w.heap.size 45 (.int .i64 T) (.slice ab nb cb) (.slice al nl cl) ∧ Below w.heap.size w wr) (fun _ i _ => nl - (intOf i).toNat)
  case atStart => exact ⟨0, 0, rfl, rfl, Nat.zero_le _, by rw [List.drop_zero, HD.out]; omega, q0, hb0⟩
  case round =>
    obtain ⟨m, k, rfl, rfl, hk, heq, hd, hb⟩ := hrel
    have k0 : (0 : Int) ≤ (k : Int) := by omega
    have c0 := hd.cell0; have c1 := hd.cell1; have c2 := hd.cell2
    have HDd := Lib.hid hd
    clear hd q0 hb0
    by_cases hlt : k < nl
    · have k1 : (k : Int) < (nl : Int) := by omega
      have e1 : IntKind.i64.wrap ((k : Int) + 1) = (k : Int) + 1 := IntWalk.i64_in _ (by omega)
      have hltl : k < x.l.length := by rw [HNL.out]; exact hlt
      have hdr := deeps_drop hltl
      obtain ⟨b, off, ab2, cb2, al2, cl2, rfl, hbl, x0, x1, x2, hpy⟩ := HQ.out.at_ k hltl
      have x0 := (hb.cell (p := ⟨b, _, none⟩) hbl).trans x0
      have x1 := (hb.cell (p := ⟨b, _, none⟩) hbl).trans x1
      have x2 := (hb.cell (p := ⟨b, _, none⟩) hbl).trans x2
      have hmem : x.l[k]?.getD Dm.no ∈ x.l := by rw [List.getElem?_eq_getElem hltl]; exact List.getElem_mem hltl
      obtain ⟨y, hy⟩ : ∃ y, x.l[k]?.getD Dm.no = y := ⟨_, rfl⟩
      rw [hy] at x0 x1 x2 hpy hdr hmem
      have hC := HP.out y hmem wr _ _ (hpy.below hb) (by have := Dm.wts_mem hmem; have := HW.out; omega)
      obtain ⟨W, hW⟩ : ∃ W, Dm.deep y = W := ⟨_, rfl⟩
      rw [hW] at hC hdr
      rw [hdr] at heq
      have heq2 : D = max (max m W) (Dm.deeps (x.l.drop (k + 1))) := by rw [heq]; omega
      have emx : max (m : Int) (W : Int) = ((max m W : Nat) : Int) := by omega
      have HEq := Lib.hid heq2; have HBb := Lib.hid hb
      clear heq heq2 hW hy hmem hpy hdr hb
      go_wp2_with fail
      refine hC.mono ?_; rintro e w3 ⟨rfl, hb3⟩
      have hB3 := HBb.out.trans (hb3.mono HBb.out.size)
      have q3 := trip_stp HDd.out hb3
      clear hC hb3 x0 x1 x2 c0 c1 c2
      go_wp2_with fail
      go_roundw
      case rel => exact ⟨max m W, k + 1, by go_num, by go_num, by omega, HEq.out, q3, hB3⟩
      case measure => simp [intOf]; omega
    · obtain rfl : k = nl := by omega
      have hdn : x.l.drop k = [] := List.drop_eq_nil_of_le (by rw [HNL.out]; exact Nat.le_refl _)
      rw [hdn] at heq
      obtain rfl : D = m := by rw [heq]; simp [Dm.deeps]
      have e2 : IntKind.i64.wrap ((D : Int) + 1) = (D : Int) + 1 := IntWalk.i64_in _ (by omega)
      clear heq hdn
      go_wp2_with fail
      go_ret
      exact ⟨rfl, hb⟩
theorem deep_le : ∀ (n : Nat) (x : Dm.It), Dm.wt x ≤ n → DeepOn x
  | 0, x, h => by have := Dm.wt_eq x; omega
  | n + 1, x, h => deep_of x fun y hy => deep_le n y (by have := Dm.wt_eq x; have := Dm.wts_mem hy; omega)
theorem Deep_any (x : Dm.It) : DeepOn x := deep_le _ x (Nat.le_refl _)
end Go.Proofs.YtfdchdnkblmijaaGreatDoor
end

section
namespace Go.Proofs.YtfdchdnkblmijaaGreatDoor
open Go.RowKit

/-- What is asked of a call of form. -/
def FormOn (x : Dm.It) : Prop := ∀ (w : World) (vb vl : Value), ItP w vb vl x →
  Calls Tryz.prog 84 #[.agg #[.int .i64 x.tag, vb, vl]] w fun e w' => e = .returned (.bool (Dm.form x)) ∧ Below w.heap.size w w'

set_option maxRecDepth 100000 in
set_option maxHeartbeats 4000000 in
theorem form_of (x : Dm.It) (hP : ∀ y ∈ x.l, FormOn y) : FormOn x := by
  intro w vb vl hp
  have hm1 : x.l.length ≤ maxLen := by obtain ⟨_, _, _, q1, q2, _⟩ := hp.2.2; omega
  unfold maxLen at hm1
  obtain ⟨ab, cb, rfl⟩ := hp.2.1.shape x.b.length rfl
  obtain ⟨al, cl, rfl⟩ := hp.2.2.shape
  have hfe := form_eq x
  have hb0 := (Below.refl w.heap.size w).alloc (Nat.le_refl _) (.cells #[.int .i64 x.tag, .slice ab x.b.length cb, .slice al x.l.length cl] 45)
  have q0 := Trip.new w 45 (.int .i64 x.tag) (.slice ab x.b.length cb) (.slice al x.l.length cl)
  have hr := hp.2.1.alloc (.cells #[.int .i64 x.tag, .slice ab x.b.length cb, .slice al x.l.length cl] 45)
  have hr0 := hp.2.1
  have hq := hp.2.2
  obtain ⟨T, hT⟩ : ∃ T, x.tag = T := ⟨_, rfl⟩
  obtain ⟨nb, hnb⟩ : ∃ n, x.b.length = n := ⟨_, rfl⟩
  obtain ⟨nl, hnl⟩ : ∃ n, x.l.length = n := ⟨_, rfl⟩
  rw [hT] at hfe
  rw [hT, hnb, hnl] at q0 hb0 hr
  rw [hnb] at hr0
  rw [hnl] at hq hm1
  rw [hT, hnb, hnl]
  obtain ⟨E, hE⟩ : ∃ E, Dm.form x = E := ⟨_, rfl⟩
  rw [hE] at hfe ⊢
  have HQ := Lib.hid hq; have HP := Lib.hid hP; have HNL := Lib.hid hnl; have HNB := Lib.hid hnb; have HF := Lib.hid hfe; have HR := Lib.hid hr; have HB0 := Lib.hid hb0; have Q0 := Lib.hid q0; have HR0 := Lib.hid hr0
  clear hT hnb hq hP hp hnl hfe hE hr hb0 q0 hr0
  by_cases h48 : T = 48
  · subst h48
    have hfe := HF.out
    rw [show (decide ((48 : Int) = 48) || x.l.isEmpty) = true from rfl, Bool.true_and, show Dm.mayB 48 x.b = x.b.isEmpty from rfl] at hfe
    have HF2 := Lib.hid hfe
    clear hfe HF
    go_enter Tryz.func84, Tryz.ntmps84
    go_wp2_with fail
    go_loopw [3] (fun i wr => ∃ k : Nat, i = .int .i64 k ∧ k ≤ nl ∧ Dm.forms x.l = Dm.forms (x.l.drop k) ∧ Trip wr w.heap.size 45 (.int .i64 48) (.slice ab nb cb) (.slice al nl cl) ∧ Below w.heap.size w wr) (fun i _ => nl - (intOf i).toNat)
    case atStart => exact ⟨0, rfl, Nat.zero_le _, rfl, Q0.out, HB0.out⟩
    case round =>
      obtain ⟨k, rfl, hk, heq, hd, hb⟩ := hrel
      have k0 : (0 : Int) ≤ (k : Int) := by omega
      have c0 := hd.cell0; have c1 := hd.cell1; have c2 := hd.cell2
      have HDd := Lib.hid hd
      clear hd
      by_cases hlt : k < nl
      · have k1 : (k : Int) < (nl : Int) := by omega
        have e1 : IntKind.i64.wrap ((k : Int) + 1) = (k : Int) + 1 := IntWalk.i64_in _ (by omega)
        have hltl : k < x.l.length := by rw [HNL.out]; exact hlt
        have hdr := forms_drop hltl
        obtain ⟨b, off, ab2, cb2, al2, cl2, rfl, hbl, x0, x1, x2, hpy⟩ := HQ.out.at_ k hltl
        have x0 := (hb.cell (p := ⟨b, _, none⟩) hbl).trans x0
        have x1 := (hb.cell (p := ⟨b, _, none⟩) hbl).trans x1
        have x2 := (hb.cell (p := ⟨b, _, none⟩) hbl).trans x2
        have hmem : x.l[k]?.getD Dm.no ∈ x.l := by rw [List.getElem?_eq_getElem hltl]; exact List.getElem_mem hltl
        obtain ⟨y, hy⟩ : ∃ y, x.l[k]?.getD Dm.no = y := ⟨_, rfl⟩
        rw [hy] at x0 x1 x2 hpy hdr hmem
        have hC := HP.out y hmem wr _ _ (hpy.below hb)
        obtain ⟨Y, hY⟩ : ∃ Y, Dm.form y = Y := ⟨_, rfl⟩
        rw [hY] at hC hdr
        rw [hdr] at heq
        have HEq := Lib.hid heq; have HBb := Lib.hid hb
        clear heq hY hy hmem hpy hdr hb
        go_wp2_with fail
        refine hC.mono ?_; rintro e w3 ⟨rfl, hb3⟩
        have hB3 := HBb.out.trans (hb3.mono HBb.out.size)
        have q3 := trip_stp HDd.out hb3
        clear hC hb3 x0 x1 x2 c0 c1 c2
        cases Y with
        | false =>
          go_wp2_with fail
          go_ret
          exact ⟨by rw [HF2.out, HEq.out]; simp, hB3⟩
        | true =>
          have heq2 : Dm.forms x.l = Dm.forms (x.l.drop (k + 1)) := by rw [HEq.out]; rfl
          have HEq2 := Lib.hid heq2
          clear heq2
          go_wp2_with fail
          go_roundw
          case rel => exact ⟨k + 1, by go_num, by omega, HEq2.out, q3, hB3⟩
          case measure => simp [intOf]; omega
      · obtain rfl : k = nl := by omega
        have hdn : x.l.drop k = [] := List.drop_eq_nil_of_le (by rw [HNL.out]; exact Nat.le_refl _)
        rw [hdn] at heq
        have hfin : E = x.b.isEmpty := by rw [HF2.out, heq]; simp [Dm.forms]
        have HFin := Lib.hid hfin
        have hln := HNB.out
        clear heq hdn hfin
        by_cases h0 : nb = 0
        · have he : x.b.isEmpty = true := by rw [List.isEmpty_iff]; exact List.eq_nil_of_length_eq_zero (by omega)
          have HEm := Lib.hid he
          subst h0
          clear hln he
          go_wp2_with fail
          go_ret
          exact ⟨by rw [HFin.out, HEm.out]; rfl, hb⟩
        · have he : x.b.isEmpty = false := by
            cases hxb : x.b with
            | nil => rw [hxb] at hln; simp at hln; omega
            | cons _ _ => rfl
          have HEm := Lib.hid he
          have h0' : ((nb : Int) == 0) = false := beq_eq_false_iff_ne.2 (by omega)
          clear hln he
          go_wp2_with fail
          go_ret
          exact ⟨by rw [HFin.out, HEm.out]; rfl, hb⟩
  have h48' : (T == 48) = false := beq_eq_false_iff_ne.2 h48
  have h48n : (T != 48) = true := by simpa using h48
  have hfe := HF.out
  rw [decide_eq_false h48, Bool.false_or] at hfe
  by_cases hl0 : nl = 0
  case neg =>
    have he : x.l.isEmpty = false := by
      cases hxb : x.l with
      | nil => have := HNL.out; rw [hxb] at this; simp at this; omega
      | cons _ _ => rfl
    rw [he, Bool.false_and, Bool.false_and] at hfe
    have hE := Lib.hid hfe
    have hp : (0 : Int) < (nl : Int) := by omega
    clear hfe he
    go_enter Tryz.func84, Tryz.ntmps84
    go_wp2_with fail
    go_ret
    exact ⟨by rw [hE.out]; rfl, HB0.out⟩
  have hxl : x.l = [] := List.eq_nil_of_length_eq_zero (by rw [HNL.out]; exact hl0)
  rw [hxl, show ([] : List Dm.It).isEmpty = true from rfl, Bool.true_and, show Dm.forms [] = true by rfl, Bool.and_true] at hfe
  subst hl0
  have HE := Lib.hid hfe
  clear hfe hxl HF
  by_cases h1 : T = 1
  · subst h1
    have hmb : Dm.mayB 1 x.b = (decide (x.b = [0]) || decide (x.b = [255])) := rfl
    rw [hmb] at HE
    by_cases hn : nb = 1
    · obtain ⟨y, hy⟩ : ∃ y, x.b = [y] := List.length_eq_one_iff.1 (by rw [HNB.out]; exact hn)
      obtain ⟨b, off, rfl, hlb, cy⟩ := HR0.out.cellAt 0 (by rw [hy]; simp)
      rw [hy] at cy HE
      simp only [List.getElem?_cons_zero, Option.getD_some, Nat.add_zero] at cy
      subst hn
      have hEq : E = (decide (y = 0) || decide (y = 255)) := by rw [HE.out]; simp
      have HEq := Lib.hid hEq
      clear hEq hmb hy
      by_cases hy0 : y = 0
      · subst hy0
        go_enter Tryz.func84, Tryz.ntmps84
        go_wp2_with fail
        go_ret
        exact ⟨by rw [HEq.out]; rfl, HB0.out⟩
      · have hy0' : (y == 0) = false := beq_eq_false_iff_ne.2 hy0
        rw [decide_eq_false hy0, Bool.false_or] at HEq
        by_cases hy2 : y = 255
        · subst hy2
          go_enter Tryz.func84, Tryz.ntmps84
          go_wp2_with fail
          go_ret
          exact ⟨by rw [HEq.out]; rfl, HB0.out⟩
        · have hy2' : (y == 255) = false := beq_eq_false_iff_ne.2 hy2
          rw [decide_eq_false hy2] at HEq
          go_enter Tryz.func84, Tryz.ntmps84
          go_wp2_with fail
          go_ret
          exact ⟨by rw [HEq.out]; rfl, HB0.out⟩
    · have hEq : E = false := by
        rw [HE.out, decide_eq_false (fun h => hn (by rw [← HNB.out, h]; rfl)), decide_eq_false (fun h => hn (by rw [← HNB.out, h]; rfl))]; rfl
      have HEq := Lib.hid hEq
      have hn' : ((nb : Int) == 1) = false := beq_eq_false_iff_ne.2 (by omega)
      clear hEq hmb
      go_enter Tryz.func84, Tryz.ntmps84
      go_wp2_with fail
      go_ret
      exact ⟨by rw [HEq.out]; rfl, HB0.out⟩
  have h1' : (T == 1) = false := beq_eq_false_iff_ne.2 h1
  by_cases h2 : T = 2
  · subst h2
    have hC := rLeast_any _ x.b _ HR.out
    have hEq : E = Dm.least x.b := HE.out
    rw [← hEq] at hC
    clear hEq
    go_enter Tryz.func84, Tryz.ntmps84
    go_wp2_with fail
    refine hC.mono ?_; rintro e w' ⟨rfl, rfl⟩
    clear hC
    go_wp2_with fail
    go_ret
    exact ⟨rfl, HB0.out⟩
  have h2' : (T == 2) = false := beq_eq_false_iff_ne.2 h2
  by_cases h4 : T = 4
  · subst h4
    go_enter Tryz.func84, Tryz.ntmps84
    go_wp2_with fail
    go_ret
    exact ⟨by rw [HE.out]; rfl, HB0.out⟩
  have h4' : (T == 4) = false := beq_eq_false_iff_ne.2 h4
  by_cases h12 : T = 12
  · subst h12
    have hC := rText_any _ x.b _ HR.out
    have hEq : E = isText x.b := HE.out
    rw [← hEq] at hC
    clear hEq
    go_enter Tryz.func84, Tryz.ntmps84
    go_wp2_with fail
    refine hC.mono ?_; rintro e w' ⟨rfl, rfl⟩
    clear hC
    go_wp2_with fail
    go_ret
    exact ⟨rfl, HB0.out⟩
  have h12' : (T == 12) = false := beq_eq_false_iff_ne.2 h12
  have hEq : E = false := by
    rw [HE.out]; unfold Dm.mayB
    rw [if_neg h1, if_neg h2, if_neg h4, if_neg h12, if_neg h48]
  have HEq := Lib.hid hEq
  clear hEq
  go_enter Tryz.func84, Tryz.ntmps84
  go_wp2_with fail
  go_ret
  exact ⟨by rw [HEq.out]; rfl, HB0.out⟩
theorem form_le : ∀ (n : Nat) (x : Dm.It), Dm.wt x ≤ n → FormOn x
  | 0, x, h => by have := Dm.wt_eq x; omega
  | n + 1, x, h => form_of x fun y hy => form_le n y (by have := Dm.wt_eq x; have := Dm.wts_mem hy; omega)
theorem Form_any (x : Dm.It) : FormOn x := form_le _ x (Nat.le_refl _)

set_option maxRecDepth 100000 in
theorem rMay_any (x : Dm.It) (vb vl : Value) (w : World) (hp : ItP w vb vl x) (hwt : Dm.wt x ≤ 2000000) :
    Calls Tryz.prog 59 #[.agg #[.int .i64 x.tag, vb, vl]] w fun e w' => e = .returned (.bool (Dm.may 8 x)) ∧ Below w.heap.size w w' := by
  obtain ⟨ab, cb, rfl⟩ := hp.2.1.shape x.b.length rfl
  obtain ⟨al, cl, rfl⟩ := hp.2.2.shape
  have hb0 := (Below.refl w.heap.size w).alloc (Nat.le_refl _) (.cells #[.int .i64 x.tag, .slice ab x.b.length cb, .slice al x.l.length cl] 45)
  have q0 := Trip.new w 45 (.int .i64 x.tag) (.slice ab x.b.length cb) (.slice al x.l.length cl)
  have hC := Form_any x _ _ _ (hp.alloc (.cells #[.int .i64 x.tag, .slice ab x.b.length cb, .slice al x.l.length cl] 45))
  have hm := Dm.may_form x 8
  have HB0 := Lib.hid hb0; have Q0 := Lib.hid q0; have HP := Lib.hid hp; have HM := Lib.hid hm
  clear hb0 q0 hp hm
  obtain ⟨F, hF⟩ : ∃ F, Dm.form x = F := ⟨_, rfl⟩
  rw [hF] at hC HM
  clear hF
  go_enter Tryz.func59, Tryz.ntmps59
  go_wp2_with fail
  refine hC.mono ?_; rintro e w1 ⟨rfl, hb⟩
  have hB1 := HB0.out.trans (hb.mono HB0.out.size)
  have q1 := trip_stp Q0.out hb
  have c0 := q1.cell0; have c1 := q1.cell1; have c2 := q1.cell2
  have HB1 := Lib.hid hB1
  clear hC hb q1 hB1
  cases F with
  | false =>
    go_wp2_with fail
    go_ret
    exact ⟨by rw [HM.out]; rfl, HB1.out⟩
  | true =>
    have hC2 := Deep_any x w1 _ _ (HP.out.below HB1.out) hwt
    have hle : decide ((Dm.deep x : Int) ≤ 8) = decide (Dm.deep x ≤ 8) := decide_eq_decide.2 (by omega)
    have HLe := Lib.hid hle
    clear hle
    go_wp2_with fail
    refine hC2.mono ?_; rintro e w2 ⟨rfl, hb⟩
    have hB2 := HB1.out.trans (hb.mono HB1.out.size)
    clear hC2 hb
    go_wp2_with fail
    go_ret
    exact ⟨by rw [HM.out, Bool.true_and, ← HLe.out]; rfl, hB2⟩
end Go.Proofs.YtfdchdnkblmijaaGreatDoor
end

section
namespace Go.Proofs.YtfdchdnkblmijaaGreatDoor
open Go.RowKit

set_option maxHeartbeats 1000000 in
theorem rLength_any (n : Nat) (w : World) (hn : n < 65536) :
    Calls Tryz.prog 86 #[.int .i64 n] w fun e w' => (∃ v, e = .returned v ∧ OwnB w' w.heap.size v (Dm.lenB n)) ∧ Below w.heap.size w w' := by
  have own : ∀ l : List Int, OwnB (w.alloc (.cells (l.map (Value.int .u8)).toArray 5)) w.heap.size (.slice (some ⟨w.heap.size, 0, none⟩) l.length l.length) l ∨ maxLen < l.length := fun l => by
    by_cases h : l.length ≤ maxLen
    · have := World.ownsRow_lit (base := w.heap.size) (e := 5) (size := 1) w (l.map (Value.int .u8)).toArray l.length (Nat.le_refl _) h (by simp)
      exact .inl (by simpa [OwnB] using this)
    · exact .inr (by omega)
  have bel : ∀ o, Below w.heap.size w (w.alloc o) := fun o => (Below.refl _ w).alloc (Nat.le_refl _) o
  have HO := Lib.hid own; have HB := Lib.hid bel
  clear own bel
  by_cases h1 : n < 128
  · have h1' : (n : Int) < 128 := by omega
    have e1 : IntKind.u8.wrap (n : Int) = (n : Int) := by rw [IntKind.wrap_u8]; omega
    go_enter Tryz.func86, Tryz.ntmps86
    go_wp2_with fail
    go_ret
    refine ⟨⟨_, rfl, ?_⟩, HB.out _⟩
    rcases HO.out [(n : Int)] with h | h
    · rw [Dm.lenB, if_pos h1]; exact h
    · simp [maxLen] at h
  have h1' : ¬ (n : Int) < 128 := by omega
  by_cases h2 : n < 256
  · have h2' : (n : Int) < 256 := by omega
    have e1 : IntKind.u8.wrap (n : Int) = (n : Int) := by rw [IntKind.wrap_u8]; omega
    go_enter Tryz.func86, Tryz.ntmps86
    go_wp2_with fail
    go_ret
    refine ⟨⟨_, rfl, ?_⟩, HB.out _⟩
    rcases HO.out [129, (n : Int)] with h | h
    · rw [Dm.lenB, if_neg h1, if_pos h2]; exact h
    · simp [maxLen] at h
  have h2' : ¬ (n : Int) < 256 := by omega
  have e0 : Int.tdiv (n : Int) 256 = ((n / 256 : Nat) : Int) := by rw [Int.tdiv_eq_ediv_of_nonneg (by omega)]; rfl
  have e1 : IntKind.u8.wrap ((n / 256 : Nat) : Int) = ((n / 256 % 256 : Nat) : Int) := by rw [IntKind.wrap_u8]; omega
  have e2 : IntKind.u8.wrap (n : Int) = ((n % 256 : Nat) : Int) := by rw [IntKind.wrap_u8]; omega
  have e3 : IntKind.i64.wrap ((n / 256 : Nat) : Int) = ((n / 256 : Nat) : Int) := IntWalk.i64_in _ (by omega)
  go_enter Tryz.func86, Tryz.ntmps86
  go_wp2_with fail
  go_ret
  refine ⟨⟨_, rfl, ?_⟩, HB.out _⟩
  have hl : Dm.lenB n = [130, (n : Int) / 256, (n : Int) % 256] := by
    rw [Dm.lenB, if_neg h1, if_neg h2, show ((n / 256 % 256 : Nat) : Int) = (n : Int) / 256 by omega, show ((n % 256 : Nat) : Int) = (n : Int) % 256 by omega]
  rw [hl]
  rcases HO.out [130, (n : Int) / 256, (n : Int) % 256] with h | h
  · exact h
  · simp [maxLen] at h

/-- Bytes that are appended to, all else as it was in W0. -/
structure AccR (W0 w : World) (v : Value) (ms : List Int) : Prop where
  own : OwnB w W0.heap.size v ms
  bel : Below W0.heap.size W0 w
theorem AccR.app {W0 w w' : World} {v v' : Value} {ms l : List Int} (h : AccR W0 w v ms) (a : Appd w w' W0.heap.size v v' l) : AccR W0 w' v' l :=
  ⟨a.own, h.bel.trans (a.below h.own h.bel.size)⟩
theorem AccR.row {W0 w : World} {v u : Value} {ms l : List Int} (h : AccR W0 w v ms) (r : Row .u8 W0 u l) : Row .u8 w u l := r.below h.bel
theorem AccR.stp {W0 w w' : World} {v : Value} {ms : List Int} (h : AccR W0 w v ms) (hb : Below w.heap.size w w') : AccR W0 w' v ms :=
  ⟨owns_below h.own hb, h.bel.trans (hb.mono h.bel.size)⟩
theorem AccR.empty (W0 : World) : AccR W0 (W0.alloc (.cells #[] 5)) (.slice (some ⟨W0.heap.size, 0, none⟩) 0 0) [] :=
  ⟨owns_empty W0 W0.heap.size 5 (Nat.le_refl _), (Below.refl _ W0).alloc (Nat.le_refl _) _⟩
theorem AccR.one (W0 : World) (t : Int) : AccR W0 (W0.alloc (.cells #[.int .u8 t] 5)) (.slice (some ⟨W0.heap.size, 0, none⟩) 1 1) [t] :=
  ⟨World.ownsRow_lit (base := W0.heap.size) (e := 5) (size := 1) W0 #[.int .u8 t] 1 (Nat.le_refl _) (by unfold maxLen; omega) rfl, (Below.refl _ W0).alloc (Nat.le_refl _) _⟩

/-- What is asked of a call of bytes. -/
def BytesOn (x : Dm.It) : Prop := ∀ (w : World) (vb vl : Value), ItP w vb vl x → (∀ z ∈ Dm.bytes x, byte z) → Dm.len x ≤ 60000 →
  Calls Tryz.prog 60 #[.agg #[.int .i64 x.tag, vb, vl]] w fun e w' => (∃ v, e = .returned v ∧ OwnB w' w.heap.size v (Dm.bytes x)) ∧ Below w.heap.size w w'

set_option maxRecDepth 100000 in
set_option maxHeartbeats 4000000 in
theorem bytes_of (x : Dm.It) (hP : ∀ y ∈ x.l, BytesOn y) : BytesOn x := by
  intro w vb vl hp hz hlen
  obtain ⟨ab, cb, rfl⟩ := hp.2.1.shape x.b.length rfl
  obtain ⟨al, cl, rfl⟩ := hp.2.2.shape
  have hle := len_eq x
  have hbe := bytes_eq x
  have hz2 : ∀ z ∈ x.b ++ Dm.cat x.l, byte z := fun z h => hz z (by rw [hbe]; exact List.mem_append_right _ h)
  have hTb : byte x.tag := hz x.tag (by rw [hbe]; simp)
  have hln : x.b.length + Dm.lens x.l ≤ 60000 := by rw [hle, List.length_append, Dm.cat_len] at hlen; omega
  have hm1 : x.l.length ≤ maxLen := by obtain ⟨_, _, _, q1, q2, _⟩ := hp.2.2; omega
  unfold maxLen at hm1
  have hb0 := (Below.refl w.heap.size w).alloc (Nat.le_refl _) (.cells #[.int .i64 x.tag, .slice ab x.b.length cb, .slice al x.l.length cl] 45)
  have q0 := Trip.new w 45 (.int .i64 x.tag) (.slice ab x.b.length cb) (.slice al x.l.length cl)
  have hp0 := hp.alloc (.cells #[.int .i64 x.tag, .slice ab x.b.length cb, .slice al x.l.length cl] 45)
  obtain ⟨T, hT⟩ : ∃ T, x.tag = T := ⟨_, rfl⟩
  obtain ⟨nb, hnb⟩ : ∃ n, x.b.length = n := ⟨_, rfl⟩
  obtain ⟨nl, hnl⟩ : ∃ n, x.l.length = n := ⟨_, rfl⟩
  rw [hT] at hTb hbe
  rw [hT, hnb, hnl] at q0 hb0 hp0
  rw [hnb] at hln
  rw [hnl] at hm1
  rw [hT, hnb, hnl]
  obtain ⟨W, hW⟩ : ∃ W, w.alloc (.cells #[.int .i64 T, .slice ab nb cb, .slice al nl cl] 45) = W := ⟨_, rfl⟩
  rw [hW] at q0 hb0 hp0
  have hWs : W.heap.size = w.heap.size + 1 := by rw [← hW, World.size_alloc]
  have a0 : AccR W (W.alloc (.cells #[] 5)) (.slice (some ⟨w.heap.size + 1, 0, none⟩) 0 0) [] := by rw [← hWs]; exact AccR.empty W
  have A0 := Lib.hid a0; have HZA := Lib.hid hz; have HWs := Lib.hid hWs
  have HP := Lib.hid hP; have HP0 := Lib.hid hp0; have HNL := Lib.hid hnl; have HNB := Lib.hid hnb; have HBE := Lib.hid hbe; have HZ := Lib.hid hz2; have HB0 := Lib.hid hb0; have Q0 := Lib.hid q0; have HLN := Lib.hid hln; have HTB := Lib.hid hTb; have HW := Lib.hid hW
  clear hT hnb hP hp hnl hz hz2 hbe hle hb0 q0 hp0 hlen hW hTb hWs a0
  have lnb : nb ≤ 60000 := by have := HLN.out; omega
  go_enter Tryz.func60, Tryz.ntmps60
  go_wp2_with (first
    | (at_builtin; rw [HW.out]; refine wpList_plain rfl fun Kx hKx => ?_; refine wp_app (.tmp 6) (.tmp 8) rfl W.heap.size A0.out.bel.size _ [] rfl A0.out.own _ x.b (A0.out.row HP0.out.2.1) rfl (by rw [HNB.out]; simp; omega) ?_; intro u4 w4 ap4
       have A1 := Lib.hid (A0.out.app ap4); refine hKx _ _ ?_; clear ap4)
    | fail)
  go_loopw [3, 4] (fun bv i wr => ∃ k : Nat, i = .int .i64 k ∧ k ≤ nl ∧ AccR W wr bv (x.b ++ Dm.cat (x.l.take k)) ∧ Trip wr w.heap.size 45 (.int .i64 T) (.slice ab nb cb) (.slice al nl cl)) (fun _ i _ => nl - (intOf i).toNat)
  case atStart => exact ⟨0, rfl, Nat.zero_le _, by simpa [Dm.cat] using A1.out, trip_stp Q0.out A1.out.bel⟩
  case round =>
    obtain ⟨k, rfl, hk, acc, hd⟩ := hrel
    have k0 : (0 : Int) ≤ (k : Int) := by omega
    have c0 := hd.cell0; have c1 := hd.cell1; have c2 := hd.cell2
    have AC := Lib.hid acc
    clear hd acc
    by_cases hlt : k < nl
    · have k1 : (k : Int) < (nl : Int) := by omega
      have e1 : IntKind.i64.wrap ((k : Int) + 1) = (k : Int) + 1 := IntWalk.i64_in _ (by omega)
      have hltl : k < x.l.length := by rw [HNL.out]; exact hlt
      have htk := cat_take hltl
      have hlk := lens_take hltl
      obtain ⟨b, off, ab2, cb2, al2, cl2, rfl, hbl, x0, x1, x2, hpy⟩ := HP0.out.2.2.at_ k hltl
      have x0 := (AC.out.bel.cell (p := ⟨b, _, none⟩) hbl).trans x0
      have x1 := (AC.out.bel.cell (p := ⟨b, _, none⟩) hbl).trans x1
      have x2 := (AC.out.bel.cell (p := ⟨b, _, none⟩) hbl).trans x2
      have hmem : x.l[k]?.getD Dm.no ∈ x.l := by rw [List.getElem?_eq_getElem hltl]; exact List.getElem_mem hltl
      obtain ⟨y, hy⟩ : ∃ y, x.l[k]?.getD Dm.no = y := ⟨_, rfl⟩
      rw [hy] at x0 x1 x2 hpy htk hlk hmem
      have hzy : ∀ z ∈ Dm.bytes y, byte z := fun z hz => HZ.out z (List.mem_append_right _ (by rw [← List.take_append_drop (k + 1) x.l, Dm.cat_append, htk]; exact List.mem_append_left _ (List.mem_append_right _ hz)))
      have hC := HP.out y hmem wr _ _ (hpy.below AC.out.bel) hzy (by have := HLN.out; omega)
      have hll : (x.b ++ Dm.cat (x.l.take k)).length + (Dm.bytes y).length ≤ 10000000 := by rw [List.length_append, Dm.cat_len, Dm.bytes_len, HNB.out]; have := HLN.out; omega
      have HZY := Lib.hid hzy; have HTK := Lib.hid htk; have HLL := Lib.hid hll
      clear hzy htk hlk hy hmem hpy hll
      go_wp2_with fail
      refine hC.mono ?_; rintro e w3 ⟨⟨v', rfl, own'⟩, hb3⟩
      have A2 := Lib.hid (AC.out.stp hb3); have R2 := Lib.hid (Row.of_bytes own' HZY.out)
      clear hC own' hb3 x0 x1 x2 c0 c1 c2
      go_wp2_with (first
        | (at_builtin; refine wpList_plain rfl fun Kx hKx => ?_; refine wp_app (.tmp 17) (.tmp 23) rfl W.heap.size A2.out.bel.size _ _ rfl A2.out.own _ (Dm.bytes y) R2.out rfl HLL.out ?_; intro u5 w5 ap5
           have A3 := Lib.hid (A2.out.app ap5); refine hKx _ _ ?_; clear ap5)
        | fail)
      have hA := A3.out
      rw [List.append_assoc, ← HTK.out] at hA
      go_roundw
      case rel => exact ⟨k + 1, by go_num, by omega, hA, trip_stp Q0.out hA.bel⟩
      case measure => simp [intOf]; omega
    · obtain rfl : k = nl := by omega
      have hA := AC.out
      rw [List.take_of_length_le (by rw [HNL.out]; exact Nat.le_refl _)] at hA
      have hrow := Row.of_bytes hA.own HZ.out
      obtain ⟨nm, hnm⟩ : ∃ n, (x.b ++ Dm.cat x.l).length = n := ⟨_, rfl⟩
      have hn6 : nm < 65536 := by rw [← hnm, List.length_append, Dm.cat_len, HNB.out]; have := HLN.out; omega
      have hbe := HBE.out
      rw [hnm] at hbe
      obtain ⟨av, cv, rfl⟩ := hrow.shape nm hnm
      have hC := rLength_any nm (wr.alloc (.cells #[.int .u8 T] 5)) hn6
      have ew : IntKind.u8.wrap T = T := by have := HTB.out; unfold byte at this; rw [IntKind.wrap_u8]; omega
      have A4 := Lib.hid (AccR.one wr T); have HRow := Lib.hid hrow; have HNM := Lib.hid hnm; have HBE2 := Lib.hid hbe; have HAb := Lib.hid hA.bel
      clear hA hrow hnm hbe
      go_wp2_with fail
      refine hC.mono ?_; rintro e w5 ⟨⟨v5, rfl, own5⟩, hb5⟩
      have hzl : ∀ z ∈ Dm.lenB nm, byte z := fun z hz => HZA.out z (by rw [HBE2.out]; exact List.mem_append_left _ (List.mem_append_right _ hz))
      have hll : (Dm.lenB nm).length ≤ 3 := by rw [Dm.lenB_length]; split <;> (try split) <;> omega
      have A5 := Lib.hid (A4.out.stp hb5); have R5 := Lib.hid (Row.of_bytes own5 hzl); have HLL := Lib.hid hll
      clear hC own5 hb5 hzl c0 c1 c2 hll
      go_wp2_with (first
        | (at_builtin; refine wpList_plain rfl fun Kx hKx => ?_; refine wp_app (.tmp 29) (.tmp 32) rfl wr.heap.size A5.out.bel.size _ _ rfl A5.out.own _ (Dm.lenB nm) R5.out rfl (by have := HLL.out; simp; omega) ?_; intro u6 w6 ap6
           have A6 := Lib.hid (A5.out.app ap6); refine hKx _ _ ?_; clear ap6)
        | (at_builtin; refine wpList_plain rfl fun Kx hKx => ?_; refine wp_app (.tmp 34) (.tmp 35) rfl wr.heap.size A6.out.bel.size _ _ rfl A6.out.own _ (x.b ++ Dm.cat x.l) (A6.out.row HRow.out) rfl (by rw [HNM.out, List.length_append]; have := HLL.out; simp; omega) ?_; intro u7 w7 ap7
           have A7 := Lib.hid (A6.out.app ap7); refine hKx _ _ ?_; clear ap7))
      go_ret
      have hown := A7.out.own
      rw [← HBE2.out] at hown
      have hwr : w.heap.size ≤ wr.heap.size := by have := HWs.out; have := HAb.out.size; omega
      exact ⟨⟨_, rfl, owns_base hown hwr⟩, (HB0.out.trans (HAb.out.mono (by have := HWs.out; omega))).trans (A7.out.bel.mono hwr)⟩
theorem bytes_le : ∀ (n : Nat) (x : Dm.It), Dm.wt x ≤ n → BytesOn x
  | 0, x, h => by have := Dm.wt_eq x; omega
  | n + 1, x, h => bytes_of x fun y hy => bytes_le n y (by have := Dm.wt_eq x; have := Dm.wts_mem hy; omega)
theorem Bytes_any (x : Dm.It) : BytesOn x := bytes_le _ x (Nat.le_refl _)
end Go.Proofs.YtfdchdnkblmijaaGreatDoor
end

section
namespace Go.Proofs.YtfdchdnkblmijaaGreatDoor
open Go.RowKit

set_option maxRecDepth 100000 in
set_option maxHeartbeats 1000000 in
theorem ras_any (x : Dm.It) (vb vl : Value) (t : Int) (w : World) (hp : ItP w vb vl x) (hw : Dm.wt x ≤ 2000000) :
    Calls Tryz.prog 70 #[.agg #[.int .i64 x.tag, vb, vl], .int .i64 t] w fun e w' => e = .returned (.int .i64 (asE x t)) ∧ Below w.heap.size w w' := by
  obtain ⟨ab, cb, rfl⟩ := hp.2.1.shape x.b.length rfl
  obtain ⟨al, cl, rfl⟩ := hp.2.2.shape
  have hb0 := (Below.refl w.heap.size w).alloc (Nat.le_refl _) (.cells #[.int .i64 x.tag, .slice ab x.b.length cb, .slice al x.l.length cl] 45)
  have hC := rMay_any x _ _ _ (hp.alloc (.cells #[.int .i64 x.tag, .slice ab x.b.length cb, .slice al x.l.length cl] 45)) hw
  have hE1 := asE_ne (x := x) (t := t)
  have hE2 := asE_may (x := x) (t := t)
  obtain ⟨E, hE⟩ : ∃ E, asE x t = E := ⟨_, rfl⟩
  obtain ⟨T, hT⟩ : ∃ T, x.tag = T := ⟨_, rfl⟩
  rw [hT] at hb0 hC hE1 hE2
  rw [hE] at hE1 hE2
  rw [hT, hE]
  have HB0 := Lib.hid hb0; have HE1 := Lib.hid hE1; have HE2 := Lib.hid hE2
  clear hE hT hp hb0 hE1 hE2
  by_cases ht : T = t
  case neg =>
    have ht' : (T != t) = true := by simpa using ht
    clear hC
    go_enter Tryz.func70, Tryz.ntmps70
    go_wp2_with fail
    go_ret
    exact ⟨by rw [HE1.out ht]; rfl, HB0.out⟩
  subst ht
  obtain ⟨M, hM⟩ : ∃ M, Dm.may 8 x = M := ⟨_, rfl⟩
  rw [hM] at hC
  have hE := HE2.out rfl
  rw [hM] at hE
  have HEE := Lib.hid hE
  clear hE hM
  go_enter Tryz.func70, Tryz.ntmps70
  go_wp2_with fail
  refine hC.mono ?_; rintro e w1 ⟨rfl, hb1⟩
  have hB1 := HB0.out.trans (hb1.mono HB0.out.size)
  clear hC hb1
  cases M with
  | false =>
    go_wp2_with fail
    go_ret
    exact ⟨by rw [show E = 71 from HEE.out]; rfl, hB1⟩
  | true =>
    go_wp2_with fail
    go_ret
    exact ⟨by rw [show E = 0 from HEE.out]; rfl, hB1⟩

/-- What the five tell. -/
def intV (x : Dm.It) : Int := if asE x 2 = 0 then numI x.b else 0
def textV (x : Dm.It) : ByteArray := if asE x 12 = 0 then strOfNums x.b else ByteArray.empty
def octV (x : Dm.It) : List Int := if asE x 4 = 0 then x.b else []
def boolV (x : Dm.It) : Bool := if asE x 1 = 0 then decide (x.b = [255]) else false
def seqV (x : Dm.It) : List Dm.It := if asE x 48 = 0 then x.l else []
theorem asE_zero {x : Dm.It} {t : Int} (h : asE x t = 0) : x.tag = t ∧ Dm.may 8 x = true := by
  unfold asE at h
  split at h
  · next ht =>
    split at h
    · next hm => exact ⟨ht, hm⟩
    · cases h
  · cases h
theorem zero_b {x : Dm.It} {t : Int} (h : asE x t = 0) : Dm.mayB t x.b = true := by
  obtain ⟨ht, hm⟩ := asE_zero h
  have := may_b hm
  rwa [ht] at this
set_option maxRecDepth 100000 in
set_option maxHeartbeats 2000000 in
theorem rAsOct_val (x : Dm.It) (vb vl : Value) (w : World) (hp : ItP w vb vl x) (hw : Dm.wt x ≤ 2000000) :
    Calls Tryz.prog 34 #[.agg #[.int .i64 x.tag, vb, vl]] w fun e w' => (∃ a c, e = .returned (.tuple #[.slice a (octV x).length c, .int .i64 (asE x 4)]) ∧ Row .u8 w' (.slice a (octV x).length c) (octV x) ∧ OwnB w' w.heap.size (.slice a (octV x).length c) (octV x)) ∧ Below w.heap.size w w' := by
  obtain ⟨ab, cb, rfl⟩ := hp.2.1.shape x.b.length rfl
  obtain ⟨al, cl, rfl⟩ := hp.2.2.shape
  have hb0 := (Below.refl w.heap.size w).alloc (Nat.le_refl _) (.cells #[.int .i64 x.tag, .slice ab x.b.length cb, .slice al x.l.length cl] 45)
  have q0 := Trip.new w 45 (.int .i64 x.tag) (.slice ab x.b.length cb) (.slice al x.l.length cl)
  have hC := ras_any x _ _ 4 _ (hp.alloc (.cells #[.int .i64 x.tag, .slice ab x.b.length cb, .slice al x.l.length cl] 45)) hw
  obtain ⟨nb, hnb⟩ : ∃ n, x.b.length = n := ⟨_, rfl⟩
  obtain ⟨nl, hnl⟩ : ∃ n, x.l.length = n := ⟨_, rfl⟩
  obtain ⟨E, hE⟩ : ∃ E, asE x 4 = E := ⟨_, rfl⟩
  rw [hnb, hnl] at hb0 q0 hC hp
  rw [hE] at hC
  rw [hnb, hnl, hE]
  have HB0 := Lib.hid hb0; have Q0 := Lib.hid q0; have HP := Lib.hid hp; have HE := Lib.hid hE; have HNB := Lib.hid hnb; have HNL := Lib.hid hnl
  clear hb0 q0 hp hE hnb hnl
  go_enter Tryz.func34, Tryz.ntmps34
  go_wp2_with fail
  refine hC.mono ?_; rintro e w1 ⟨rfl, hb1⟩
  have hB1 := HB0.out.trans (hb1.mono HB0.out.size)
  have q1 := trip_stp Q0.out hb1
  have c0 := q1.cell0; have c1 := q1.cell1; have c2 := q1.cell2; have xl := q1.lt
  have HB1 := Lib.hid hB1; have Q1 := Lib.hid q1
  clear hC hb1 hB1 q1
  by_cases h0 : E = 0
  case neg =>
    have h0' : (E != 0) = true := by simpa using h0
    go_wp2_with fail
    go_ret2
    exact ⟨by unfold octV; simp only [HE.out, if_neg h0]; exact ⟨none, 0, rfl, Row.nil _ _, World.ownsRow_nil _ _ _ _⟩, HB1.out⟩
  subst h0
  have hz := zero_b HE.out
  have A0 := Lib.hid (AccR.empty w1); have R1 := Lib.hid (HP.out.2.1.below HB1.out)
  have lnb : nb ≤ 2000000 := by have h1 := HNB.out; have h2 := Dm.wt_eq x; omega
  clear hz
  go_wp2_with (first
    | (at_builtin; refine wpList_plain rfl fun Kx hKx => ?_; refine wp_app (.tmp 10) (.tmp 12) rfl w1.heap.size A0.out.bel.size _ [] rfl A0.out.own _ x.b (A0.out.row R1.out) rfl (by rw [HNB.out]; simp; omega) ?_; intro u4 w4 ap4
       have A1 := Lib.hid (A0.out.app ap4); refine hKx _ _ ?_; clear ap4)
    | fail)
  have rr := Row.of_bytes A1.out.own (by rw [List.nil_append]; exact HP.out.2.1.all_byte)
  rw [List.nil_append] at rr
  have ro : OwnB w4 w.heap.size u4 x.b := by have h := A1.out.own; rw [List.nil_append] at h; exact owns_low h HB1.out.size
  obtain ⟨a4, c4, rfl⟩ := rr.shape _ rfl
  go_ret2
  exact ⟨by unfold octV; simp only [HE.out, if_true]; exact ⟨a4, c4, rfl, rr, ro⟩, HB1.out.trans (A1.out.bel.mono HB1.out.size)⟩

/-- append([]api.Item{}, l...). -/
theorem app_items {w0 W : World} (l : List Dm.It) (a : Option Addr) (n c : Nat) (hw : Below w0.heap.size w0 W) (h : ItsV w0 (.slice a n c) l) (hlen : l.length ≤ 1000000) {ty : TypeId} :
    ∃ r W', (Builtin.append_ #[43, 43] ty #[.slice (some ⟨W.heap.size, 0, none⟩) 0 0, .slice a n c]).run Tryz.prog (W.alloc (.cells #[] 45)) = .ok r W' ∧ Below W.heap.size W W' ∧ (∃ a c, r = .slice a l.length c) ∧ (∀ g, r.ownBlock = some g → W.heap.size ≤ g) ∧
      ∀ V, Below w0.heap.size w0 V → (∀ g, r.ownBlock = some g → V.heap[g]? = W'.heap[g]?) → ItsV V r l := by
  obtain ⟨j0, gi, gz0, gz1, gz2⟩ := info_parts info_item'
  have own0 : (W.alloc (.cells #[] 45)).ownsRow W.heap.size 45 3 (.slice (some ⟨W.heap.size, 0, none⟩) 0 0) 0 [] := World.ownsRow_made W #[] 0 (Nat.le_refl _) (Nat.zero_le _) rfl
  have hb0 := (Below.refl W.heap.size W).alloc (Nat.le_refl _) (.cells #[] 45)
  obtain ⟨_, _, e, hl, hc, h0, hr⟩ := h
  cases e
  cases a with
  | none =>
    obtain rfl : c = 0 := h0 rfl
    obtain rfl : l = [] := List.length_eq_zero_iff.1 (by omega)
    refine ⟨_, _, run_append_owned_none (P := Tryz.prog) (w := W.alloc (.cells #[] 45)) W.heap.size 43 ty 45 j0 3 Tryz.underlying43 gi _ 0 _ own0, hb0, ⟨_, _, rfl⟩, (fun g hg => by cases hg; exact Nat.le_refl _), fun V _ _ => ⟨_, _, rfl, Nat.le_refl _, Nat.zero_le _, (fun e => by cases e), fun e => absurd rfl e⟩⟩
  | some ad =>
    have hx : ∃ xs : List Value, xs.length = l.length * 3 ∧ (∀ j u, xs[j]? = some u → w0.cell? (ad.add j) = some u) ∧ (∀ u ∈ xs, u.oneCell' = true) ∧
        ∀ (V : World) (b' o' : Nat), Below w0.heap.size w0 V → (∀ j u, xs[j]? = some u → V.cell? ⟨b', o' + j, none⟩ = some u) → ItemsAt V b' o' l := by
      by_cases hne : l = []
      · subst hne
        exact ⟨[], rfl, (fun j u h => by simp at h), (fun u h => by simp at h), fun V b' o' _ _ => by unfold ItemsAt; trivial⟩
      · obtain ⟨b, o, e, hlt, hi⟩ := hr hne
        cases e
        obtain ⟨xs, k0, k1, k2, k3⟩ := items_cells hlt hi
        exact ⟨xs, k0, fun j u hj => by rw [addr_add]; exact k1 j u hj, k2, k3⟩
    obtain ⟨xs, k0, k1, k2, k3⟩ := hx
    have k1' : ∀ j u, xs[j]? = some u → (W.alloc (.cells #[] 45)).cell? (ad.add j) = some u := fun j u hj => by
      have h1 := k1 j u hj
      have hlt := World.block_lt_of_cell? w0 _ h1
      exact ((hw.alloc hw.size (.cells #[] 45)).cell hlt).trans h1
    obtain ⟨v', w', e1, own5, hgrow, _, hat⟩ := run_append_own_at (P := Tryz.prog) (W.alloc (.cells #[] 45)) W.heap.size 43 ty 45 j0 (.agg #[.int .i64 0, .slice none 0 0, .slice none 0 0]) 3 56 Tryz.underlying43 gi gz0 gz1 gz2 rfl (by decide) _ 0 [] own0 ad l.length c xs k0 k1' k2 (by unfold maxLen; omega) (by omega) (by simp)
    have hb5 : Below W.heap.size W w' := hb0.grown hgrow (by simp) (fun k e => by cases e; exact Nat.le_refl _)
    rw [Nat.zero_add, List.nil_append] at own5
    obtain ⟨a5, n5, c5, rfl⟩ := owns_slice own5
    have hn5 : n5 = l.length := by
      rcases own5.2 with ⟨h1, h2⟩ | ⟨g', cap', cur, h1, _⟩
      · cases h1; omega
      · cases h1; rfl
    subst hn5
    exact ⟨_, _, e1, hb5, ⟨_, _, rfl⟩, fun g hg => (own_at own5 hg).1, fun V hV hg => its_of_owns (fun b' o' hc => k3 V b' o' hV hc) ⟨own5.1, own5.2.imp_right (by
      rintro ⟨g, cap', cur, e, q1, q2, r⟩
      exact ⟨g, cap', cur, e, q1, (hg g (by rw [e]; rfl)).trans q2, r⟩)⟩⟩
theorem wp_appI {w0 W : World} {o : Oper} {a : Act} {K : Act → World → Prop} {Q : Exit → Act → World → Prop} (s x : Operand) (l : List Dm.It) (al : Option Addr) (n c : Nat)
    (ho : o.op = .call { callee := .builtin .append, args := #[s, x], argTypes := #[43, 43] }) (hs : a.eval s = .slice (some ⟨W.heap.size, 0, none⟩) 0 0) (hx : a.eval x = .slice al n c)
    (hw : Below w0.heap.size w0 W) (h : ItsV w0 (.slice al n c) l) (hlen : l.length ≤ 1000000)
    (hK : ∀ r W', Below W.heap.size W W' → (∃ a c, r = .slice a l.length c) → (∀ g, r.ownBlock = some g → W.heap.size ≤ g) → (∀ V, Below w0.heap.size w0 V → (∀ g, r.ownBlock = some g → V.heap[g]? = W'.heap[g]?) → ItsV V r l) → K (a.put o.dst r) W') :
    o.wp Tryz.prog a (W.alloc (.cells #[] 45)) K Q := by
  obtain ⟨r, W', hr, h1, h2, h3, h4⟩ := app_items l al n c hw h hlen (ty := o.type)
  unfold Oper.wp
  simp [execOp, ho, resolve, invoke, builtin, hs, hx, hr, Result.andThen]
  exact hK r W' h1 h2 h3 h4

set_option maxRecDepth 100000 in
set_option maxHeartbeats 2000000 in
theorem rAsSeq_val (x : Dm.It) (vb vl : Value) (w : World) (hp : ItP w vb vl x) (hw : Dm.wt x ≤ 2000000) :
    Calls Tryz.prog 69 #[.agg #[.int .i64 x.tag, vb, vl]] w fun e w' => (∃ a c, e = .returned (.tuple #[.slice a (seqV x).length c, .int .i64 (asE x 48)]) ∧ ItsV w' (.slice a (seqV x).length c) (seqV x)) ∧ Below w.heap.size w w' := by
  obtain ⟨ab, cb, rfl⟩ := hp.2.1.shape x.b.length rfl
  obtain ⟨al, cl, rfl⟩ := hp.2.2.shape
  have hb0 := (Below.refl w.heap.size w).alloc (Nat.le_refl _) (.cells #[.int .i64 x.tag, .slice ab x.b.length cb, .slice al x.l.length cl] 45)
  have q0 := Trip.new w 45 (.int .i64 x.tag) (.slice ab x.b.length cb) (.slice al x.l.length cl)
  have hC := ras_any x _ _ 48 _ (hp.alloc (.cells #[.int .i64 x.tag, .slice ab x.b.length cb, .slice al x.l.length cl] 45)) hw
  obtain ⟨nb, hnb⟩ : ∃ n, x.b.length = n := ⟨_, rfl⟩
  obtain ⟨nl, hnl⟩ : ∃ n, x.l.length = n := ⟨_, rfl⟩
  obtain ⟨E, hE⟩ : ∃ E, asE x 48 = E := ⟨_, rfl⟩
  rw [hnb, hnl] at hb0 q0 hC hp
  rw [hE] at hC
  rw [hnb, hnl, hE]
  have HB0 := Lib.hid hb0; have Q0 := Lib.hid q0; have HP := Lib.hid hp; have HE := Lib.hid hE; have HNB := Lib.hid hnb; have HNL := Lib.hid hnl
  clear hb0 q0 hp hE hnb hnl
  go_enter Tryz.func69, Tryz.ntmps69
  go_wp2_with fail
  refine hC.mono ?_; rintro e w1 ⟨rfl, hb1⟩
  have hB1 := HB0.out.trans (hb1.mono HB0.out.size)
  have q1 := trip_stp Q0.out hb1
  have c0 := q1.cell0; have c1 := q1.cell1; have c2 := q1.cell2; have xl := q1.lt
  have HB1 := Lib.hid hB1; have Q1 := Lib.hid q1
  clear hC hb1 hB1 q1
  by_cases h0 : E = 0
  case neg =>
    have h0' : (E != 0) = true := by simpa using h0
    go_wp2_with fail
    go_ret2
    exact ⟨by unfold seqV; simp only [HE.out, if_neg h0]; exact ⟨none, 0, rfl, ItsV.nil _⟩, HB1.out⟩
  subst h0
  have hz := zero_b HE.out
  have hlen : x.l.length ≤ 1000000 := by have h2 := Dm.wt_eq x; have h3 := Dm.wts_len x.l; omega
  have HI := Lib.hid (HP.out.2.2.below HB1.out); have HL := Lib.hid hlen
  clear hz hlen
  go_wp2_with (first
    | (at_builtin; refine wpList_plain rfl fun Kx hKx => ?_; refine wp_appI (w0 := w1) (W := w1) (.tmp 10) (.tmp 12) x.l al nl cl rfl rfl rfl (Below.refl _ _) HI.out HL.out ?_; rintro r W' hbW ⟨ar, cr, rfl⟩ - hit
       have HBW := Lib.hid hbW; have HIT := Lib.hid (hit W' hbW fun _ _ => rfl); refine hKx _ _ ?_; clear hbW hit)
    | fail)
  go_ret2
  exact ⟨by unfold seqV; simp only [HE.out, if_true]; exact ⟨ar, cr, rfl, HIT.out⟩, HB1.out.trans (HBW.out.mono HB1.out.size)⟩

set_option maxRecDepth 100000 in
set_option maxHeartbeats 2000000 in
theorem rAsInt_val (x : Dm.It) (vb vl : Value) (w : World) (hp : ItP w vb vl x) (hw : Dm.wt x ≤ 2000000) :
    Calls Tryz.prog 33 #[.agg #[.int .i64 x.tag, vb, vl]] w fun e w' => e = .returned (.tuple #[.int .i64 (intV x), .int .i64 (asE x 2)]) ∧ Below w.heap.size w w' := by
  obtain ⟨ab, cb, rfl⟩ := hp.2.1.shape x.b.length rfl
  obtain ⟨al, cl, rfl⟩ := hp.2.2.shape
  have hb0 := (Below.refl w.heap.size w).alloc (Nat.le_refl _) (.cells #[.int .i64 x.tag, .slice ab x.b.length cb, .slice al x.l.length cl] 45)
  have q0 := Trip.new w 45 (.int .i64 x.tag) (.slice ab x.b.length cb) (.slice al x.l.length cl)
  have hC := ras_any x _ _ 2 _ (hp.alloc (.cells #[.int .i64 x.tag, .slice ab x.b.length cb, .slice al x.l.length cl] 45)) hw
  obtain ⟨nb, hnb⟩ : ∃ n, x.b.length = n := ⟨_, rfl⟩
  obtain ⟨nl, hnl⟩ : ∃ n, x.l.length = n := ⟨_, rfl⟩
  obtain ⟨E, hE⟩ : ∃ E, asE x 2 = E := ⟨_, rfl⟩
  rw [hnb, hnl] at hb0 q0 hC hp
  rw [hE] at hC
  rw [hnb, hnl, hE]
  have HB0 := Lib.hid hb0; have Q0 := Lib.hid q0; have HP := Lib.hid hp; have HE := Lib.hid hE; have HNB := Lib.hid hnb; have HNL := Lib.hid hnl
  clear hb0 q0 hp hE hnb hnl
  go_enter Tryz.func33, Tryz.ntmps33
  go_wp2_with fail
  refine hC.mono ?_; rintro e w1 ⟨rfl, hb1⟩
  have hB1 := HB0.out.trans (hb1.mono HB0.out.size)
  have q1 := trip_stp Q0.out hb1
  have c0 := q1.cell0; have c1 := q1.cell1; have c2 := q1.cell2; have xl := q1.lt
  have HB1 := Lib.hid hB1; have Q1 := Lib.hid q1
  clear hC hb1 hB1 q1
  by_cases h0 : E = 0
  case neg =>
    have h0' : (E != 0) = true := by simpa using h0
    go_wp2_with fail
    go_ret2
    exact ⟨by unfold intV; rw [HE.out, if_neg h0]; rfl, HB1.out⟩
  subst h0
  have hz := zero_b HE.out
  have hll := least_len hz
  rw [HNB.out] at hll
  have hr1 := HP.out.2.1.below HB1.out
  cases hxb : x.b with
  | nil => have := HNB.out; rw [hxb] at this; simp at this; omega
  | cons x0 r =>
    rw [hxb] at hr1
    have hby := hr1.all_byte
    obtain ⟨b, off, rfl, hlt, ct⟩ := hr1.cellAt 0 (by simp)
    simp only [List.getElem?_cons_zero, Option.getD_some, Nat.add_zero] at ct
    have hnb := HNB.out
    rw [hxb] at hnb
    have hV : intV x = numI (x0 :: r) := by unfold intV; rw [HE.out, if_pos rfl, hxb]
    have hb0 := hby x0 (by simp)
    have HR1 := Lib.hid hr1; have HBy := Lib.hid hby; have HV := Lib.hid hV; have HNB2 := Lib.hid hnb; have HXB := Lib.hid hxb
    clear hz hr1 hby hV hnb hxb hlt
    obtain ⟨s0, hs0, hsv, hs1⟩ : ∃ s0 : Int, (s0 = if 128 ≤ x0 then -1 else 0) ∧ signI x0 = 256 * s0 + x0 ∧ -1 ≤ s0 ∧ s0 ≤ 0 := by
      refine ⟨if 128 ≤ x0 then -1 else 0, rfl, ?_, ?_⟩
      · unfold signI; split <;> split <;> omega
      · split <;> omega
    -- the value behind k bytes
    obtain ⟨g, hg⟩ : ∃ g : Nat → Int, g = fun k => match k with | 0 => s0 | k + 1 => foldI (signI x0) (r.take k) := ⟨_, rfl⟩
    have g0 : g 0 = s0 := by rw [hg]
    have gs : ∀ k, k < nb → g (k + 1) = 256 * g k + (x0 :: r)[k]?.getD 0 := fun k hk => by
      rw [hg]
      match k, hk with
      | 0, _ => simp [foldI, hsv]
      | k + 1, hk =>
        have := foldI_take (n := signI x0) (r := r) (k := k) (by have := HNB2.out; simp at this; omega)
        simp only [List.getElem?_cons_succ]; exact this
    have gb : ∀ k, k < nb → -36028797018963968 ≤ g k ∧ g k < 36028797018963968 := fun k hk => by
      rw [hg]
      match k, hk with
      | 0, _ => simp only; omega
      | k + 1, hk =>
        have hin := foldI_in (r.take k) (signI x0) 0 (fun z hz => HBy.out z (List.mem_cons_of_mem _ (List.mem_of_mem_take hz))) (by unfold byte at hb0; unfold signI; split <;> omega) (by unfold byte at hb0; unfold signI; split <;> omega)
        have hkl : (r.take k).length = k := by rw [List.length_take]; have := HNB2.out; simp at this; omega
        rw [hkl, Nat.zero_add] at hin
        have hp6 : (256 : Int) ^ k ≤ 281474976710656 := by
          have : k ≤ 6 := by omega
          match k, this with
          | 0, _ => decide
          | 1, _ => decide
          | 2, _ => decide
          | 3, _ => decide
          | 4, _ => decide
          | 5, _ => decide
          | 6, _ => decide
        simp only; omega
    have gl : g nb = numI (x0 :: r) := by
      rw [hg]
      obtain ⟨m, hm⟩ : ∃ m, nb = m + 1 := ⟨nb - 1, by omega⟩
      subst hm
      simp only [numI]
      rw [List.take_of_length_le (by have := HNB2.out; simp at this; omega)]
    have GS := Lib.hid gs; have GB := Lib.hid gb; have GL := Lib.hid gl; have G0 := Lib.hid g0
    clear gs gb gl hg hsv g0
    have hlp : (0 : Int) < (nb : Int) := by omega
    have fin : ∀ n0 : Int, n0 = s0 → True := fun _ _ => trivial
    by_cases h128 : 128 ≤ x0
    all_goals
      first | rw [if_pos h128] at hs0 | rw [if_neg h128] at hs0
      subst hs0
      go_wp2_with fail
      go_loopw [5, 6] (fun n i wr => ∃ k : Nat, n = .int .i64 (g k) ∧ i = .int .i64 k ∧ k ≤ nb ∧ Trip wr w.heap.size 45 (.int .i64 x.tag) (.slice (some ⟨b, off, none⟩) nb cb) (.slice al nl cl) ∧ Below w1.heap.size w1 wr) (fun _ i _ => 10 - (intOf i).toNat)
      case atStart => exact ⟨0, by rw [G0.out], rfl, Nat.zero_le _, Q1.out, Below.refl _ _⟩
      case round =>
        obtain ⟨k, rfl, rfl, hk, hd, hb⟩ := hrel
        have k0 : (0 : Int) ≤ (k : Int) := by omega
        have c0 := hd.cell0; have c1 := hd.cell1; have c2 := hd.cell2
        have HD := Lib.hid hd
        clear hd
        by_cases hlt2 : k < nb
        · have k1 : (k : Int) < (nb : Int) := by omega
          have e1 : IntKind.i64.wrap ((k : Int) + 1) = (k : Int) + 1 := IntWalk.i64_in _ (by omega)
          obtain ⟨_, _, e', _, cx⟩ := (HR1.out.below hb).cellAt k (by rw [HNB2.out]; exact hlt2)
          cases e'
          have hyb : byte ((x0 :: r)[k]?.getD 0) := by
            rw [List.getElem?_eq_getElem (by rw [HNB2.out]; exact hlt2)]
            exact HBy.out _ (List.getElem_mem _)
          have hst := GS.out k hlt2; have hbd := GB.out k hlt2
          obtain ⟨y, hy⟩ : ∃ y, (x0 :: r)[k]?.getD 0 = y := ⟨_, rfl⟩
          rw [hy] at cx hyb hst
          obtain ⟨n, hn⟩ : ∃ n, g k = n := ⟨_, rfl⟩
          rw [hn] at hst hbd ⊢
          unfold byte at hyb
          have e2 : IntKind.i64.wrap (256 * n) = 256 * n := IntWalk.i64_in _ (by omega)
          have e3 : IntKind.i64.wrap y = y := IntWalk.i64_in _ (by omega)
          have e4 : IntKind.i64.wrap (256 * n + y) = 256 * n + y := IntWalk.i64_in _ (by omega)
          have HST := Lib.hid hst
          clear hst hbd hy hn
          go_wp2_with fail
          go_roundw
          case rel => exact ⟨k + 1, by rw [HST.out], by go_num, by omega, HD.out, hb⟩
          case measure => simp [intOf]; omega
        · obtain rfl : k = nb := by omega
          go_wp2_with fail
          go_ret2
          exact ⟨by rw [HV.out, ← GL.out]; rfl, HB1.out.trans (hb.mono HB1.out.size)⟩

set_option maxRecDepth 100000 in
theorem rSeq_mk (v : Value) (l : List Dm.It) (w : World) (h : ItsV w v l) (hlen : l.length ≤ 1000000) :
    Calls Tryz.prog 25 #[v] w fun e w' => (∃ a c, e = .returned (.agg #[.int .i64 48, .slice none 0 0, .slice a l.length c]) ∧
      ItP w' (.slice none 0 0) (.slice a l.length c) (.mk 48 [] l)) ∧ Below w.heap.size w w' := by
  obtain ⟨al, cl, rfl⟩ := h.shape
  obtain ⟨W, hW⟩ : ∃ W, w.alloc (.cells #[.int .i64 0, .slice none 0 0, .slice none 0 0] 45) = W := ⟨_, rfl⟩
  have q0 := Trip.new w 45 (.int .i64 0) (.slice none 0 0) (.slice none 0 0)
  have hb0 := (Below.refl w.heap.size w).alloc (Nat.le_refl _) (.cells #[.int .i64 0, .slice none 0 0, .slice none 0 0] 45)
  have hs : W.heap.size = w.heap.size + 1 := by rw [← hW, World.size_alloc]
  rw [hW] at q0 hb0
  have HW := Lib.hid hW; have Q0 := Lib.hid q0; have HB0 := Lib.hid hb0; have HI := Lib.hid h; have HS := Lib.hid hs
  clear hW q0 hb0 h hs
  go_enter Tryz.func25, Tryz.ntmps25
  go_wp2_with (first
    | (at_builtin; rw [HW.out]; refine wpList_plain rfl fun Kx hKx => ?_; refine wp_appI (w0 := w) (W := W) (.tmp 3) (.tmp 4) l al l.length cl rfl (by rw [HS.out]; rfl) rfl HB0.out HI.out hlen ?_; rintro r W' hbW ⟨ar, cr, rfl⟩ hg hit
       have q4 := trip_stp Q0.out hbW
       have HBW := Lib.hid hbW; have HIT := Lib.hid hit; have HG := Lib.hid hg; have Q4 := Lib.hid q4; refine hKx _ _ ?_; clear hbW hit hg
       have f0 := q4.free 0; have f1 := q4.free 1; have f2 := q4.free 2; have x0 := q4.cell0; have x1 := q4.cell1; have x2 := q4.cell2; have xl := q4.lt
       clear q4)
    | fail)
  refine bodyPost_ret (item_ret1 rfl rfl (trip3 Q4.out _ _ _)) rfl ?_
  have hb5 : Below w.heap.size w _ := bel3' (HB0.out.trans (HBW.out.mono HB0.out.size)) (Nat.le_refl w.heap.size) (.int .i64 48) (.slice none 0 0) (.slice ar l.length cr)
  refine ⟨⟨ar, cr, rfl, (show (Lit.int .i64 48).wf = true by decide), Row.nil _ _, HIT.out _ hb5 fun g hg => ?_⟩, hb5⟩
  have h1 := HG.out g hg; have h2 := HS.out
  exact ((Below.heap_setCell _ ⟨w.heap.size, 2, none⟩ _ g (show g ≠ w.heap.size by omega)).trans (Below.heap_setCell _ ⟨w.heap.size, 1, none⟩ _ g (show g ≠ w.heap.size by omega))).trans (Below.heap_setCell _ ⟨w.heap.size, 0, none⟩ _ g (show g ≠ w.heap.size by omega))
end Go.Proofs.YtfdchdnkblmijaaGreatDoor
end

section
namespace Go.Proofs.YtfdchdnkblmijaaGreatDoor
open Go.RowKit

theorem headD_at (l : List Int) : l.headD 0 = l[0]?.getD 0 := by cases l <;> rfl

set_option maxRecDepth 100000 in
set_option maxHeartbeats 4000000 in
theorem rInt_mk (n : Int) (w : World) (h1 : -9223372036854775808 ≤ n) (h2 : n ≤ 9223372036854775807) :
    Calls Tryz.prog 22 #[.int .i64 n] w fun e w' => (∃ a c, e = .returned (.agg #[.int .i64 2, .slice a (intB n).length c, .slice none 0 0]) ∧
      ItP w' (.slice a (intB n).length c) (.slice none 0 0) (.mk 2 (intB n) []) ∧ Past w.heap.size (.slice a (intB n).length c)) ∧ Below w.heap.size w w' := by
  obtain ⟨B, hB⟩ : ∃ B, w.heap.size = B := ⟨_, rfl⟩
  rw [hB]
  obtain ⟨W, hW⟩ : ∃ W, w.alloc (.cells #[.int .i64 0, .slice none 0 0, .slice none 0 0] 45) = W := ⟨_, rfl⟩
  have q0 := Trip.new w 45 (.int .i64 0) (.slice none 0 0) (.slice none 0 0)
  have hb0 := (Below.refl w.heap.size w).alloc (Nat.le_refl _) (.cells #[.int .i64 0, .slice none 0 0, .slice none 0 0] 45)
  have hs : W.heap.size = B + 1 := by rw [← hW, World.size_alloc, hB]
  rw [hW, hB] at q0
  rw [hW, hB] at hb0
  have own0 := World.ownsRow_lit (base := W.heap.size) (e := 5) (size := 1) W #[.int .u8 (n % 256)] 1 (Nat.le_refl _) (by unfold maxLen; omega) rfl
  rw [hs] at own0
  have hl1 : lowB n 1 = [n % 256] := by rw [lowB_succ n (by omega), restI_zero]; rfl
  have own1 : OwnB (W.alloc (.cells #[.int .u8 (n % 256)] 5)) (B + 1) (.slice (some ⟨B + 1, 0, none⟩) 1 1) (lowB n 1) := by rw [hl1]; exact own0
  have q1 := q0.alloc (.cells #[.int .u8 (n % 256)] 5)
  have hb1 := hb0.alloc (by omega) (.cells #[.int .u8 (n % 256)] 5)
  have HW := Lib.hid hW; have Q1 := Lib.hid q1; have HB1 := Lib.hid hb1; have O1 := Lib.hid own1; have HS := Lib.hid hs
  clear hW q0 hb0 hs own0 hl1 own1 q1 hb1
  go_enter Tryz.func22, Tryz.ntmps22
  go_wp2_with fail
  rw [HW.out]
  (try rw [hB])
  go_loopw [3, 4, 5] (fun bv rv _ wr => ∃ j : Nat, 1 ≤ j ∧ j ≤ 8 ∧ rv = .int .i64 (restI n j) ∧ OwnB wr (B + 1) bv (lowB n j) ∧ (j = 1 ∨ ¬ stopI n (j - 1)) ∧ Trip wr B 45 (.int .i64 0) (.slice none 0 0) (.slice none 0 0) ∧ Below B w wr) (fun bv _ _ _ => 10 - lenOf bv)
  case atStart => exact ⟨1, Nat.le_refl _, by omega, by rw [restI_succ, restI_zero], O1.out, .inl rfl, Q1.out, HB1.out⟩
  case round =>
    obtain ⟨j, hj1, hj8, rfl, own, hn, hd, hb⟩ := hrel
    have hr := Row.of_bytes own (lowB_byte n j)
    obtain ⟨a, c, rfl⟩ := hr.shape j (lowB_len n hj8)
    obtain ⟨b, off, rfl, hlb, cy⟩ := hr.cellAt 0 (by rw [lowB_len n hj8]; omega)
    have hst : stopI n j ↔ restI n j = if (lowB n j)[0]?.getD 0 < 128 then 0 else -1 := by unfold stopI; rw [headD_at]
    obtain ⟨y, hy⟩ : ∃ y, (lowB n j)[0]?.getD 0 = y := ⟨_, rfl⟩
    obtain ⟨q, hq⟩ : ∃ q, restI n j = q := ⟨_, rfl⟩
    rw [hy] at cy hst
    rw [hq] at hst ⊢
    obtain ⟨a, ha⟩ : ∃ a : Option Addr, a = some ⟨b, off, none⟩ := ⟨_, rfl⟩
    have HR := Lib.hid hr; have HD := Lib.hid hd; have HB := Lib.hid hb; have HST := Lib.hid hst; have HQ := Lib.hid hq; have HO := Lib.hid own
    rw [← ha] at HR HO
    have hjp : (0 : Int) < (j : Int) := by omega
    simp only [Nat.add_zero] at cy
    clear hr hd hb hst hq own hy hlb
    subst ha
    by_cases hq0 : q = 0
    · subst hq0
      by_cases hy1 : y < 128
      · have hy2 : ¬ 128 ≤ y := by omega
        have hI := intB_low n hj1 hj8 (HST.out.2 (by rw [if_pos hy1])) hn
        have hd2 := HD.out
        have f0 := hd2.free 0; have f1 := hd2.free 1; have f2 := hd2.free 2; have x0 := hd2.cell0; have x1 := hd2.cell1; have x2 := hd2.cell2; have xl := hd2.lt
        have HI := Lib.hid hI
        clear hd2 hI hn
        go_wp2_with fail
        refine bodyPost_ret (item_ret1 rfl rfl (trip3 HD.out _ _ _)) rfl ?_
        have hoff := HR.out.off_trip HD.out
        have hlen : (intB n).length = j := by rw [HI.out, lowB_len n hj8]
        refine ⟨⟨_, c, by rw [hlen], ⟨(show (Lit.int .i64 2).wf = true by decide), ?_, ItsV.nil _⟩, ?_⟩, bel3' HB.out (Nat.le_refl _) _ _ _⟩
        rotate_left
        · intro b' o' m' c' e
          have h9 : B + 1 ≤ b := own_above HO.out rfl
          cases e
          omega
        show Row .u8 _ (.slice (some ⟨b, off, none⟩) (intB n).length c) (intB n)
        rw [hlen, HI.out]
        exact HR.out.aside3 hoff _ _ _
      · have hy2 : 128 ≤ y := by omega
        have hns : ¬ stopI n j := fun h => by have h9 := HST.out.1 h; rw [if_neg hy1] at h9; omega
        have hj9 : j < 8 := by
          by_cases h9 : j = 8
          · subst h9; exact absurd (stop_eight n h1 h2) hns
          · omega
        have hlow := lowB_succ n hj9
        have hrs := restI_succ n j
        rw [HQ.out] at hlow hrs
        have A1 := Lib.hid (AccR.one wr ((0 : Int) % 256))
        have HLow := Lib.hid hlow; have HRS := Lib.hid hrs; have HNS := Lib.hid hns
        clear hlow hrs hns hn
        go_wp2_with (first
          | (at_builtin; refine wpList_plain rfl fun Kx hKx => ?_; refine wp_app (.tmp 34) (.tmp 35) rfl wr.heap.size A1.out.bel.size _ _ rfl A1.out.own _ (lowB n j) (A1.out.row HR.out) rfl (by rw [lowB_len n hj8]; simp; omega) ?_; intro u4 w4 ap4
             have A2 := Lib.hid (A1.out.app ap4); refine hKx _ _ ?_; clear ap4)
          | fail)
        have hlt := HD.out.lt
        have hown : OwnB w4 (B + 1) u4 (lowB n (j + 1)) := by
          have h9 := owns_base A2.out.own (show B + 1 ≤ wr.heap.size by omega)
          rw [HLow.out]; exact h9
        have hdd := trip_stp HD.out A2.out.bel
        have hbb := HB.out.trans (A2.out.bel.mono (Nat.le_of_lt hlt))
        obtain ⟨a4, c4, rfl⟩ := (Row.of_bytes hown (lowB_byte n _)).shape (j + 1) (lowB_len n (by omega))
        go_roundw
        case rel => exact ⟨j + 1, by omega, by omega, by first | (rw [HRS.out]; done) | (rw [HRS.out]; rfl), hown, .inr HNS.out, hdd, hbb⟩
        case measure => simp [lenOf]; omega
    have hq0' : (q == 0) = false := beq_eq_false_iff_ne.2 hq0
    by_cases hq1 : q = -1
    · subst hq1
      by_cases hy1 : y < 128
      · have hy2 : ¬ 128 ≤ y := by omega
        have hns : ¬ stopI n j := fun h => by have h9 := HST.out.1 h; rw [if_pos hy1] at h9; omega
        have hj9 : j < 8 := by
          by_cases h9 : j = 8
          · subst h9; exact absurd (stop_eight n h1 h2) hns
          · omega
        have hlow := lowB_succ n hj9
        have hrs := restI_succ n j
        rw [HQ.out] at hlow hrs
        have A1 := Lib.hid (AccR.one wr ((-1 : Int) % 256))
        have HLow := Lib.hid hlow; have HRS := Lib.hid hrs; have HNS := Lib.hid hns
        clear hlow hrs hns hn
        go_wp2_with (first
          | (at_builtin; refine wpList_plain rfl fun Kx hKx => ?_; refine wp_app (.tmp 34) (.tmp 35) rfl wr.heap.size A1.out.bel.size _ _ rfl A1.out.own _ (lowB n j) (A1.out.row HR.out) rfl (by rw [lowB_len n hj8]; simp; omega) ?_; intro u4 w4 ap4
             have A2 := Lib.hid (A1.out.app ap4); refine hKx _ _ ?_; clear ap4)
          | fail)
        have hlt := HD.out.lt
        have hown : OwnB w4 (B + 1) u4 (lowB n (j + 1)) := by
          have h9 := owns_base A2.out.own (show B + 1 ≤ wr.heap.size by omega)
          rw [HLow.out]; exact h9
        have hdd := trip_stp HD.out A2.out.bel
        have hbb := HB.out.trans (A2.out.bel.mono (Nat.le_of_lt hlt))
        obtain ⟨a4, c4, rfl⟩ := (Row.of_bytes hown (lowB_byte n _)).shape (j + 1) (lowB_len n (by omega))
        go_roundw
        case rel => exact ⟨j + 1, by omega, by omega, by first | (rw [HRS.out]; done) | (rw [HRS.out]; rfl), hown, .inr HNS.out, hdd, hbb⟩
        case measure => simp [lenOf]; omega
      · have hy2 : 128 ≤ y := by omega
        have hI := intB_low n hj1 hj8 (HST.out.2 (by rw [if_neg hy1])) hn
        have hd2 := HD.out
        have f0 := hd2.free 0; have f1 := hd2.free 1; have f2 := hd2.free 2; have x0 := hd2.cell0; have x1 := hd2.cell1; have x2 := hd2.cell2; have xl := hd2.lt
        have HI := Lib.hid hI
        clear hd2 hI hn
        go_wp2_with fail
        refine bodyPost_ret (item_ret1 rfl rfl (trip3 HD.out _ _ _)) rfl ?_
        have hoff := HR.out.off_trip HD.out
        have hlen : (intB n).length = j := by rw [HI.out, lowB_len n hj8]
        refine ⟨⟨_, c, by rw [hlen], ⟨(show (Lit.int .i64 2).wf = true by decide), ?_, ItsV.nil _⟩, ?_⟩, bel3' HB.out (Nat.le_refl _) _ _ _⟩
        rotate_left
        · intro b' o' m' c' e
          have h9 : B + 1 ≤ b := own_above HO.out rfl
          cases e
          omega
        show Row .u8 _ (.slice (some ⟨b, off, none⟩) (intB n).length c) (intB n)
        rw [hlen, HI.out]
        exact HR.out.aside3 hoff _ _ _
    have hq1' : (q == -1) = false := beq_eq_false_iff_ne.2 hq1
    have hns : ¬ stopI n j := fun h => by have h9 := HST.out.1 h; split at h9 <;> omega
    have hj9 : j < 8 := by
      by_cases h9 : j = 8
      · subst h9; exact absurd (stop_eight n h1 h2) hns
      · omega
    have hlow := lowB_succ n hj9
    have hrs := restI_succ n j
    rw [HQ.out] at hlow hrs
    have A1 := Lib.hid (AccR.one wr (q % 256))
    have HLow := Lib.hid hlow; have HRS := Lib.hid hrs; have HNS := Lib.hid hns
    clear hlow hrs hns hn
    go_wp2_with (first
      | (at_builtin; refine wpList_plain rfl fun Kx hKx => ?_; refine wp_app (.tmp 34) (.tmp 35) rfl wr.heap.size A1.out.bel.size _ _ rfl A1.out.own _ (lowB n j) (A1.out.row HR.out) rfl (by rw [lowB_len n hj8]; simp; omega) ?_; intro u4 w4 ap4
         have A2 := Lib.hid (A1.out.app ap4); refine hKx _ _ ?_; clear ap4)
      | fail)
    have hlt := HD.out.lt
    have hown : OwnB w4 (B + 1) u4 (lowB n (j + 1)) := by
      have h9 := owns_base A2.out.own (show B + 1 ≤ wr.heap.size by omega)
      rw [HLow.out]; exact h9
    have hdd := trip_stp HD.out A2.out.bel
    have hbb := HB.out.trans (A2.out.bel.mono (Nat.le_of_lt hlt))
    obtain ⟨a4, c4, rfl⟩ := (Row.of_bytes hown (lowB_byte n _)).shape (j + 1) (lowB_len n (by omega))
    go_roundw
    case rel => exact ⟨j + 1, by omega, by omega, by first | (rw [HRS.out]; done) | (rw [HRS.out]; rfl), hown, .inr HNS.out, hdd, hbb⟩
    case measure => simp [lenOf]; omega
set_option maxRecDepth 100000 in
set_option maxHeartbeats 1000000 in
theorem rOct_mk (v : Value) (l : List Int) (w : World) (h : Row .u8 w v l) (hlen : l.length ≤ 1000000) :
    Calls Tryz.prog 23 #[v] w fun e w' => (∃ a c, e = .returned (.agg #[.int .i64 4, .slice a l.length c, .slice none 0 0]) ∧
      ItP w' (.slice a l.length c) (.slice none 0 0) (.mk 4 l []) ∧ Past w.heap.size (.slice a l.length c)) ∧ Below w.heap.size w w' := by
  obtain ⟨W, hW⟩ : ∃ W, w.alloc (.cells #[.int .i64 0, .slice none 0 0, .slice none 0 0] 45) = W := ⟨_, rfl⟩
  have q0 := Trip.new w 45 (.int .i64 0) (.slice none 0 0) (.slice none 0 0)
  have hb0 := (Below.refl w.heap.size w).alloc (Nat.le_refl _) (.cells #[.int .i64 0, .slice none 0 0, .slice none 0 0] 45)
  have hs : W.heap.size = w.heap.size + 1 := by rw [← hW, World.size_alloc]
  rw [hW] at q0 hb0
  have a0 : AccR W (W.alloc (.cells #[] 5)) (.slice (some ⟨w.heap.size + 1, 0, none⟩) 0 0) [] := by rw [← hs]; exact AccR.empty W
  have HW := Lib.hid hW; have Q0 := Lib.hid q0; have HB0 := Lib.hid hb0; have HR := Lib.hid h; have HS := Lib.hid hs; have A0 := Lib.hid a0
  clear hW q0 hb0 h hs a0
  go_enter Tryz.func23, Tryz.ntmps23
  go_wp2_with (first
    | (at_builtin; rw [HW.out]; refine wpList_plain rfl fun Kx hKx => ?_; refine wp_app (.tmp 3) (.tmp 4) rfl W.heap.size A0.out.bel.size _ [] rfl A0.out.own _ l (A0.out.row (HR.out.below HB0.out)) rfl (by simp; omega) ?_; intro u4 w4 ap4
       have A1 := Lib.hid (A0.out.app ap4)
       have rr := Row.of_bytes A1.out.own (by rw [List.nil_append]; exact HR.out.all_byte)
       rw [List.nil_append] at rr
       obtain ⟨a4, c4, rfl⟩ := rr.shape _ rfl
       have q4 := trip_stp Q0.out A1.out.bel
       have RR := Lib.hid rr; have Q4 := Lib.hid q4; refine hKx _ _ ?_; clear ap4 rr
       have f0 := q4.free 0; have f1 := q4.free 1; have f2 := q4.free 2; have x0 := q4.cell0; have x1 := q4.cell1; have x2 := q4.cell2; have xl := q4.lt
       clear q4)
    | fail)
  refine bodyPost_ret (item_ret1 rfl rfl (trip3 Q4.out _ _ _)) rfl ?_
  have hoff := RR.out.off_trip Q4.out
  refine ⟨⟨a4, c4, rfl, ⟨(show (Lit.int .i64 4).wf = true by decide), RR.out.aside3 hoff _ _ _, ItsV.nil _⟩, fun b' o' m' c' e => by have h9 : W.heap.size ≤ b' := own_above A1.out.own (by rw [e]; rfl); have := HS.out; omega⟩, bel3' (HB0.out.trans (A1.out.bel.mono HB0.out.size)) (Nat.le_refl _) _ _ _⟩

end Go.Proofs.YtfdchdnkblmijaaGreatDoor
end

section
namespace Go.Proofs.YtfdchdnkblmijaaGreatDoor
open Go.RowKit

/-- What stands ahead of the content: the tag, the length, and where the content begins. -/
def headR (l : List Int) (p : Nat) : Except Int (Int × Nat × Nat) :=
  match l.drop p with
  | [] => .error 70
  | t :: b1 => if Dm.known t = false then .error 71 else
    match Dm.lenR b1 with
    | .error e => .error e
    | .ok (n, long) => .ok (t, n, p + 1 + long)
def headV : Except Int (Int × Nat × Nat) → Value
  | .error e => .agg #[.int .i64 0, .int .i64 0, .int .i64 0, .int .i64 e]
  | .ok (t, n, a) => .agg #[.int .i64 t, .int .i64 n, .int .i64 a, .int .i64 0]
theorem head_ret {tmps : Array Value} {w : World} {x y z u : Value} (hp : tmps.getD 4 undef = .pointer (some ⟨w.heap.size, 0, none⟩)) :
    (results Tryz.f106 tmps).run Tryz.prog (w.alloc (.cells #[x, y, z, u] 137)) = .ok (.agg #[x, y, z, u]) (w.alloc (.cells #[x, y, z, u] 137)) :=
  results_cell1 (fn := Tryz.f106) (p := 4) (ty := 137) rfl _ _ w.heap.size _ _ _ _ hp (World.alloc_heap_new w _) Tryz.underlying137 rfl (by kernel_rfl)

set_option maxRecDepth 100000 in
set_option maxHeartbeats 8000000 in
theorem head_any (v : Value) (l : List Int) (p : Nat) (w : World) (h : Row .u8 w v l) (hl : l.length ≤ 1000000) (hpl : p ≤ l.length) :
    Calls Tryz.prog 106 #[v, .int .i64 p] w fun e w' => e = .returned (headV (headR l p)) ∧ Below w.heap.size w w' := by
  have hby := h.all_byte
  obtain ⟨a, c, rfl⟩ := h.shape l.length rfl
  have hbel := fun o => (Below.refl w.heap.size w).alloc (Nat.le_refl _) o
  have HB := Lib.hid hbel
  clear hbel
  have hdl : (l.drop p).length = l.length - p := List.length_drop
  have hat : ∀ j, l[p + j]?.getD 0 = (l.drop p)[j]?.getD 0 := fun j => by rw [List.getElem?_drop]
  have hR : headR l p = match l.drop p with
    | [] => .error 70
    | t :: b1 => if Dm.known t = false then .error 71 else
      match Dm.lenR b1 with
      | .error e => .error e
      | .ok (n, long) => .ok (t, n, p + 1 + long) := rfl
  have hbd : ∀ y ∈ l.drop p, byte y := fun y hy => hby y (List.mem_of_mem_drop hy)
  obtain ⟨R, hRe⟩ : ∃ R, headR l p = R := ⟨_, rfl⟩
  rw [hRe] at hR ⊢
  clear hRe hby
  obtain ⟨n, hn⟩ : ∃ n, l.length = n := ⟨_, rfl⟩
  rw [hn] at h hl hpl hdl ⊢
  have p0 : (0 : Int) ≤ (p : Int) := by omega
  have e1 : IntKind.i64.wrap ((p : Int) + 1) = (p : Int) + 1 := IntWalk.i64_in _ (by omega)
  have e2 : IntKind.i64.wrap ((p : Int) + 2) = (p : Int) + 2 := IntWalk.i64_in _ (by omega)
  have e3 : IntKind.i64.wrap ((p : Int) + 3) = (p : Int) + 3 := IntWalk.i64_in _ (by omega)
  have t0 : ((p : Int)).toNat = p := by omega
  have t1 : ((p : Int) + 1).toNat = p + 1 := by omega
  have t2 : ((p : Int) + 2).toNat = p + 2 := by omega
  have t3 : ((p : Int) + 3).toNat = p + 3 := by omega
  have s1 : (0 : Int) ≤ (p : Int) + 1 := by omega
  have s2 : (0 : Int) ≤ (p : Int) + 2 := by omega
  have s3 : (0 : Int) ≤ (p : Int) + 3 := by omega
  cases hd : l.drop p with
  | nil =>
    rw [hd] at hR hdl
    have g0 : (n : Int) ≤ (p : Int) := by simp at hdl; omega
    have HE := Lib.hid (show R = .error 70 from hR)
    clear hR h
    go_enter Tryz.func106, Tryz.ntmps106
    go_wp2_with fail
    exact bodyPost_ret (head_ret rfl) rfl ⟨by rw [HE.out]; rfl, HB.out _⟩
  | cons t b1 =>
    rw [hd] at hR hdl hat hbd
    have hb1 : b1.length + 1 = n - p := by simpa using hdl
    have g0 : ¬ (n : Int) ≤ (p : Int) := by omega
    have g0' : (p : Int) < (n : Int) := by omega
    obtain ⟨b, off, rfl, hlt, c0⟩ := h.cellAt p (by rw [hn]; omega)
    have a0 := hat 0
    rw [Nat.add_zero] at a0
    rw [a0] at c0
    simp only [List.getElem?_cons_zero, Option.getD_some] at c0
    have htb := hbd t (by simp)
    have e5 : IntKind.i64.wrap t = t := IntWalk.i64_in _ (by unfold byte at htb; omega)
    have hat1 : ∀ j, l[p + (j + 1)]?.getD 0 = b1[j]?.getD 0 := fun j => by rw [hat (j + 1)]; simp
    have HR := Lib.hid h; have HAT := Lib.hid hat1; have HBD := Lib.hid hbd; have HN := Lib.hid hn
    clear h hat a0 hat1 hd hdl hbd hn
    by_cases hk : Dm.known t = true
    case neg =>
      have hk0 : Dm.known t = false := by simpa using hk
      have HE := Lib.hid (show R = .error 71 by rw [hR]; simp only; rw [if_pos hk0])
      have hq : (t != 1) = true ∧ (t != 2) = true ∧ (t != 4) = true ∧ (t != 12) = true ∧ (t != 48) = true := by
        unfold Dm.known at hk0
        simp only [Bool.or_eq_false_iff, decide_eq_false_iff_not] at hk0
        simpa using ⟨hk0.1.1.1.1, hk0.1.1.1.2, hk0.1.1.2, hk0.1.2, hk0.2⟩
      obtain ⟨k1, k2, k3, k4, k5⟩ := hq
      clear hR hk hk0
      go_enter Tryz.func106, Tryz.ntmps106
      go_wp2_with fail
      exact bodyPost_ret (head_ret rfl) rfl ⟨by rw [HE.out]; rfl, HB.out _⟩
    have hR2 : R = match Dm.lenR b1 with | .error e => .error e | .ok (n, long) => .ok (t, n, p + 1 + long) := by rw [hR]; simp only; rw [if_neg (by rw [hk]; decide)]
    obtain ⟨i, hi, hti⟩ := (known_iff t).1 hk
    have HR2 := Lib.hid hR2
    clear hR hR2 hk
    have fin : ∀ (w0 : World), w0 = w → True := fun _ _ => trivial
    clear fin
    -- the tag is one of five
    have htag : t = 1 ∨ t = 2 ∨ t = 4 ∨ t = 12 ∨ t = 48 := by
      match i, hi with
      | 0, _ => exact .inl hti.symm
      | 1, _ => exact .inr (.inl hti.symm)
      | 2, _ => exact .inr (.inr (.inl hti.symm))
      | 3, _ => exact .inr (.inr (.inr (.inl hti.symm)))
      | 4, _ => exact .inr (.inr (.inr (.inr hti.symm)))
    clear hti hi
    go_enter Tryz.func106, Tryz.ntmps106
    go_upto_region 4 with fail
    go_cut [35] from 18 to 35 (fun c wx => c = .bool false ∧ wx = w.alloc (.cells #[.int .i64 0, .int .i64 0, .int .i64 0, .int .i64 0] 137))
    case first =>
      rcases htag with rfl | rfl | rfl | rfl | rfl
      all_goals
        go_wp2_with fail
        go_meet
        case rel => exact ⟨rfl, rfl⟩
    case rest =>
    obtain ⟨rfl, rfl⟩ := hcut
    clear htag
    cases b1 with
    | nil =>
      have g1 : (n : Int) ≤ (p : Int) + 1 := by simp at hb1; omega
      have HV := Lib.hid (show headV R = .agg #[.int .i64 0, .int .i64 0, .int .i64 0, .int .i64 70] by rw [HR2.out]; rfl)
      clear hb1 HR2 HAT HBD
      go_wp2_with fail
      exact bodyPost_ret (head_ret rfl) rfl ⟨by rw [HV.out], HB.out _⟩
    | cons f r =>
      have hr1 : r.length + 2 = n - p := by simp at hb1; omega
      have g1 : ¬ (n : Int) ≤ (p : Int) + 1 := by omega
      have g1' : (p : Int) + 1 < (n : Int) := by omega
      obtain ⟨_, _, e', -, c1⟩ := HR.out.cellAt (p + 1) (by rw [HN.out]; omega)
      cases e'
      have a1 := HAT.out 0
      rw [Nat.zero_add] at a1
      rw [a1] at c1
      simp only [List.getElem?_cons_zero, Option.getD_some] at c1
      have hfb := HBD.out f (by simp)
      unfold byte at hfb
      have e6 : IntKind.i64.wrap f = f := IntWalk.i64_in _ (by omega)
      have hLC := Dm.lenR_cons f r
      have HLC := Lib.hid hLC
      clear hLC a1 hb1
      by_cases hf1 : f < 128
      · have HV := Lib.hid (show headV R = .agg #[.int .i64 t, .int .i64 f, .int .i64 ((p : Int) + 2), .int .i64 0] by
          rw [HR2.out, HLC.out, if_pos hf1]
          show Value.agg #[.int .i64 t, .int .i64 ((f.toNat : Nat) : Int), .int .i64 ((p + 1 + 1 : Nat) : Int), .int .i64 0] = _
          rw [Int.toNat_of_nonneg hfb.1, show ((p + 1 + 1 : Nat) : Int) = (p : Int) + 2 by omega])
        clear HR2 HAT HBD HLC
        go_wp2_with fail
        exact bodyPost_ret (head_ret rfl) rfl ⟨by rw [HV.out], HB.out _⟩
      have hL2 := HLC.out
      rw [if_neg hf1] at hL2
      have e7 : IntKind.i64.wrap ((p : Int) + 2 + f) = (p : Int) + 2 + f := IntWalk.i64_in _ (by omega)
      by_cases hf2 : f = 129
      · rw [if_pos hf2] at hL2
        have m1 : (f != 129) = false := by simp [hf2]
        have m2 : (f == 130) = false := by rw [hf2]; decide
        have m3 : (f == 129) = true := by simp [hf2]
        obtain ⟨A, hA⟩ : ∃ A : Nat, p + 1 + 2 = A := ⟨_, rfl⟩
        have e8 : IntKind.i64.wrap ((p : Int) + 2 + f - 128) = (A : Int) := (IntWalk.i64_in _ (by omega)).trans (by omega)
        cases r with
        | nil =>
          have g2 : (n : Int) < (A : Int) := by simp at hr1; omega
          have HV := Lib.hid (show headV R = .agg #[.int .i64 0, .int .i64 0, .int .i64 0, .int .i64 70] by rw [HR2.out, hL2]; rfl)
          clear HR2 HAT HBD HLC hL2 hA hf2
          go_wp2_with fail
          exact bodyPost_ret (head_ret rfl) rfl ⟨by rw [HV.out], HB.out _⟩
        | cons x r2 =>
          have g2 : ¬ (n : Int) < (A : Int) := by simp at hr1; omega
          have g2' : (p : Int) + 2 < (n : Int) := by simp at hr1; omega
          obtain ⟨_, _, e', -, c2⟩ := HR.out.cellAt (p + 2) (by rw [HN.out]; omega)
          cases e'
          have a2 := HAT.out 1
          rw [show p + (1 + 1) = p + 2 by omega] at a2
          rw [a2] at c2
          simp only [List.getElem?_cons_zero, List.getElem?_cons_succ, Option.getD_some] at c2
          have hxb := HBD.out x (by simp)
          unfold byte at hxb
          have e9 : IntKind.i64.wrap x = x := IntWalk.i64_in _ (by omega)
          simp only at hL2
          by_cases hx : x < 128
          · rw [if_pos hx] at hL2
            have HV := Lib.hid (show headV R = .agg #[.int .i64 0, .int .i64 0, .int .i64 0, .int .i64 71] by rw [HR2.out, hL2]; rfl)
            clear HR2 HAT HBD HLC hL2 hA hf2 a2 hr1
            go_wp2_with fail
            exact bodyPost_ret (head_ret rfl) rfl ⟨by rw [HV.out], HB.out _⟩
          · rw [if_neg hx] at hL2
            have HV := Lib.hid (show headV R = .agg #[.int .i64 t, .int .i64 x, .int .i64 (A : Int), .int .i64 0] by
              rw [HR2.out, hL2]
              show Value.agg #[.int .i64 t, .int .i64 ((x.toNat : Nat) : Int), .int .i64 ((p + 1 + 2 : Nat) : Int), .int .i64 0] = _
              rw [Int.toNat_of_nonneg hxb.1, hA])
            clear HR2 HAT HBD HLC hL2 hA hf2 a2 hr1
            go_upto_region 20 with fail
            clear m1 m2 m3 hx g2 g2' g1 g1' g0 g0' c0 c1 c2 e9 e6 e5 e1 e3 t0 t1 t2 t3 s1 s2 s3 hf1 HR HN hfb hxb htb p0 hl hpl hlt
            go_wp2_with fail
            exact bodyPost_ret (head_ret rfl) rfl ⟨by rw [HV.out], HB.out _⟩
      rw [if_neg hf2] at hL2
      have m1 : (f != 129) = true := by simpa using hf2
      have m3 : (f == 129) = false := by simpa using hf2
      by_cases hf3 : f = 130
      · rw [if_pos hf3] at hL2
        have m4 : (f != 130) = false := by simp [hf3]
        have m2 : (f == 130) = true := by simp [hf3]
        obtain ⟨A, hA⟩ : ∃ A : Nat, p + 1 + 3 = A := ⟨_, rfl⟩
        have e8 : IntKind.i64.wrap ((p : Int) + 2 + f - 128) = (A : Int) := (IntWalk.i64_in _ (by omega)).trans (by omega)
        match r, hr1, HAT, HBD, HR2, hL2 with
        | [], hr1, HAT, HBD, HR2, hL2 =>
          have g2 : (n : Int) < (A : Int) := by simp at hr1; omega
          have HV := Lib.hid (show headV R = .agg #[.int .i64 0, .int .i64 0, .int .i64 0, .int .i64 70] by rw [HR2.out, hL2]; rfl)
          clear HR2 HAT HBD HLC hL2 hA hf3
          go_wp2_with fail
          exact bodyPost_ret (head_ret rfl) rfl ⟨by rw [HV.out], HB.out _⟩
        | [x], hr1, HAT, HBD, HR2, hL2 =>
          have g2 : (n : Int) < (A : Int) := by simp at hr1; omega
          have HV := Lib.hid (show headV R = .agg #[.int .i64 0, .int .i64 0, .int .i64 0, .int .i64 70] by rw [HR2.out, hL2]; rfl)
          clear HR2 HAT HBD HLC hL2 hA hf3
          go_wp2_with fail
          exact bodyPost_ret (head_ret rfl) rfl ⟨by rw [HV.out], HB.out _⟩
        | x :: y :: r2, hr1, HAT, HBD, HR2, hL2 =>
          have g2 : ¬ (n : Int) < (A : Int) := by simp at hr1; omega
          have g2' : (p : Int) + 2 < (n : Int) := by simp at hr1; omega
          have g3' : (p : Int) + 3 < (n : Int) := by simp at hr1; omega
          obtain ⟨_, _, e', -, c2⟩ := HR.out.cellAt (p + 2) (by rw [HN.out]; omega)
          cases e'
          have a2 := HAT.out 1
          rw [show p + (1 + 1) = p + 2 by omega] at a2
          rw [a2] at c2
          simp only [List.getElem?_cons_zero, List.getElem?_cons_succ, Option.getD_some] at c2
          obtain ⟨_, _, e', -, c3⟩ := HR.out.cellAt (p + 3) (by rw [HN.out]; omega)
          cases e'
          have a3 := HAT.out 2
          rw [show p + (2 + 1) = p + 3 by omega] at a3
          rw [a3] at c3
          simp only [List.getElem?_cons_zero, List.getElem?_cons_succ, Option.getD_some] at c3
          have hxb := HBD.out x (by simp)
          have hyb := HBD.out y (by simp)
          unfold byte at hxb hyb
          have e9 : IntKind.i64.wrap x = x := IntWalk.i64_in _ (by omega)
          have e10 : IntKind.i64.wrap y = y := IntWalk.i64_in _ (by omega)
          have e11 : IntKind.i64.wrap (256 * x) = 256 * x := IntWalk.i64_in _ (by omega)
          have e12 : IntKind.i64.wrap (256 * x + y) = 256 * x + y := IntWalk.i64_in _ (by omega)
          simp only at hL2
          by_cases hx : 256 * x + y < 256
          · rw [if_pos hx] at hL2
            have HV := Lib.hid (show headV R = .agg #[.int .i64 0, .int .i64 0, .int .i64 0, .int .i64 71] by rw [HR2.out, hL2]; rfl)
            clear HR2 HAT HBD HLC hL2 hA hf3 a2 a3 hr1
            go_wp2_with fail
            exact bodyPost_ret (head_ret rfl) rfl ⟨by rw [HV.out], HB.out _⟩
          · rw [if_neg hx] at hL2
            have HV := Lib.hid (show headV R = .agg #[.int .i64 t, .int .i64 (256 * x + y), .int .i64 (A : Int), .int .i64 0] by
              rw [HR2.out, hL2]
              show Value.agg #[.int .i64 t, .int .i64 (((256 * x + y).toNat : Nat) : Int), .int .i64 ((p + 1 + 3 : Nat) : Int), .int .i64 0] = _
              rw [Int.toNat_of_nonneg (by omega), hA])
            clear HR2 HAT HBD HLC hL2 hA hf3 a2 a3 hr1
            go_upto_region 20 with fail
            clear m1 m2 m4 hx g2 g2' g1 g1' g0 g0' c0 c1 c2 c3 g3' e9 e10 e11 e12 e6 e5 e1 e3 t0 t1 t2 t3 s1 s2 s3 hf1 HR HN hfb hxb hyb htb p0 hl hpl hlt
            go_wp2_with fail
            exact bodyPost_ret (head_ret rfl) rfl ⟨by rw [HV.out], HB.out _⟩
      rw [if_neg hf3] at hL2
      have m4 : (f != 130) = true := by simpa using hf3
      have HV := Lib.hid (show headV R = .agg #[.int .i64 0, .int .i64 0, .int .i64 0, .int .i64 71] by rw [HR2.out, hL2]; rfl)
      clear HR2 HAT HBD HLC hL2
      go_wp2_with fail
      exact bodyPost_ret (head_ret rfl) rfl ⟨by rw [HV.out], HB.out _⟩
end Go.Proofs.YtfdchdnkblmijaaGreatDoor
end

section
namespace Go.Proofs.YtfdchdnkblmijaaGreatDoor
open Go.RowKit

/-- The item that stands at a place, that is so deep at most, and where it ends. -/
def readAt (l : List Int) (p d : Nat) : Except Int (Dm.It × Nat) :=
  match Dm.get d (l.drop p) with
  | .error e => .error e
  | .ok (x, r) => .ok (x, l.length - r.length)
def ReadOn (d : Nat) : Prop := ∀ (v : Value) (l : List Int) (p : Nat) (w : World), Row .u8 w v l → l.length ≤ 1000000 → p ≤ l.length →
  Calls Tryz.prog 90 #[v, .int .i64 p, .int .i64 d] w fun e w' => GotAt w.heap.size w' e (readAt l p d) ∧ Below w.heap.size w w'
mutual
theorem wt_len' : ∀ x : Dm.It, Dm.wt x ≤ Dm.len x
  | .mk t b l => by
    unfold Dm.wt Dm.len
    have := wts_lens' l
    have h1 := Dm.lenB_length (b.length + Dm.lens l)
    have : 1 ≤ (Dm.lenB (b.length + Dm.lens l)).length := by rw [h1]; split <;> (try split) <;> omega
    omega
theorem wts_lens' : ∀ l : List Dm.It, Dm.wts l ≤ Dm.lens l
  | [] => by simp [Dm.wts]
  | x :: l => by
    unfold Dm.wts Dm.lens
    have := wt_len' x
    have := wts_lens' l
    omega
end
theorem head_err {l : List Int} {p d : Nat} {e : Int} (h : headR l p = .error e) (hd : 1 ≤ d) : Dm.get d (l.drop p) = .error e ∧ (e = 70 ∨ e = 71) := by
  unfold headR at h
  match hdr : l.drop p, h with
  | [], h => cases h; exact ⟨by cases d <;> rfl, .inl rfl⟩
  | t :: b1, h =>
    simp only at h
    by_cases hk : Dm.known t = true
    · rw [if_neg (by rw [hk]; decide)] at h
      match hl : Dm.lenR b1, h with
      | .error e', h => cases h; exact ⟨get_err hk hd hl, lenR_err hl⟩
      | .ok (n, k), h => cases h
    · rw [if_pos (by simpa using hk)] at h
      cases h
      refine ⟨?_, .inr rfl⟩
      rw [get_d, Dm.getW_cons, show Dm.known t = false by simpa using hk]; rfl
theorem head_ok {l : List Int} {p d n a : Nat} {t : Int} (hby : ∀ y ∈ l, byte y) (h : headR l p = .ok (t, n, a)) (hd : 1 ≤ d) :
    p < a ∧ a ≤ l.length ∧ Dm.known t = true ∧ n < 65536 ∧ Dm.get d (l.drop p) = (if 8192 < a - p + n then .error 71 else if l.length - a < n then .error 70 else
      if t = 48 then
        match Dm.many (subGet d) ((l.drop a).take n).length ((l.drop a).take n) with
        | none => .error 71
        | some ys => .ok (.mk t [] ys, l.drop (a + n))
      else if Dm.mayB t ((l.drop a).take n) then .ok (.mk t ((l.drop a).take n) [], l.drop (a + n)) else .error 71) := by
  unfold headR at h
  match hdr : l.drop p, h with
  | [], h => cases h
  | t' :: b1, h =>
    simp only at h
    by_cases hk : Dm.known t' = true
    · rw [if_neg (by rw [hk]; decide)] at h
      match hl : Dm.lenR b1, h with
      | .error e', h => cases h
      | .ok (n', k), h =>
        cases h
        have hlen : b1.length + 1 = l.length - p := by have := congrArg List.length hdr; rw [List.length_drop, List.length_cons] at this; omega
        obtain ⟨k1, k3, kl, m6⟩ := lenR_lt (fun y hy => hby y (List.mem_of_mem_drop (i := p) (by rw [hdr]; exact List.mem_cons_of_mem _ hy))) hl
        have hda : b1.drop k = l.drop (p + 1 + k) := by
          have : b1 = (l.drop p).drop 1 := by rw [hdr]; rfl
          rw [this, List.drop_drop, List.drop_drop]; congr 1; omega
        refine ⟨by omega, by omega, hk, m6, ?_⟩
        rw [get_ok hk hd hl]
        unfold getOk
        rw [hda, List.drop_drop, show b1.length - k = l.length - (p + 1 + k) by omega, show 1 + k + n = p + 1 + k - p + n by omega]
        rfl
    · rw [if_pos (by simpa using hk)] at h
      cases h
theorem seq_step' {w wr V w5 : World} {B : Nat} {t2 : TypeId} {lv v' vb vl : Value} {ys : List Dm.It} {xs : List Value} {y : Dm.It} {x0 x1 : Value}
    (hd : Trip wr B t2 x0 x1 lv) (ho : wr.ownsRow (B + 1) 45 3 lv ys.length xs) (hc : Cells (B + 1) lv.ownBlock wr xs ys) (hb : Below B w wr)
    (hV : Below wr.heap.size wr V) (hy : Own wr.heap.size none V vb vl y)
    (hg : V.grownBy w5 lv.ownBlock) (own5 : w5.ownsRow (B + 1) 45 3 v' (ys.length + 1) (xs ++ [.int .i64 y.tag, vb, vl])) (hat : v'.ownBlock = lv.ownBlock ∨ v'.ownBlock = some V.heap.size) :
    Trip (w5.setCell ⟨B, 2, none⟩ v') B t2 x0 x1 v' ∧ (w5.setCell ⟨B, 2, none⟩ v').ownsRow (B + 1) 45 3 v' (ys ++ [y]).length (xs ++ [.int .i64 y.tag, vb, vl]) ∧
      Cells (B + 1) v'.ownBlock (w5.setCell ⟨B, 2, none⟩ v') (xs ++ [.int .i64 y.tag, vb, vl]) (ys ++ [y]) ∧ Below B w (w5.setCell ⟨B, 2, none⟩ v') := by
  have hlt := hd.lt
  have hgo : ∀ k, lv.ownBlock = some k → B + 1 ≤ k ∧ k < wr.heap.size := fun k hk => own_at ho hk
  have hdV : Trip V B t2 x0 x1 lv := (hV.block B hlt).trans hd
  have hd5 : Trip w5 B t2 x0 x1 lv := (hg.block B (Nat.lt_of_lt_of_le hlt hV.size) (fun e => by have := hgo B e.symm; omega)).trans hdV
  have far : ∀ k, k ≠ B → (w5.setCell ⟨B, 2, none⟩ v').heap[k]? = w5.heap[k]? := fun k hk => Below.heap_setCell w5 ⟨B, 2, none⟩ v' k hk
  have hss : (w5.setCell ⟨B, 2, none⟩ v').heap.size = w5.heap.size := by simp
  have c1 : Cells (B + 1) lv.ownBlock V (xs ++ [.int .i64 y.tag, vb, vl]) (ys ++ [y]) :=
    (hc.kept (Keep.of_below hV (Nat.le_refl _))).snoc (hy.of_new (by omega) (fun k hk => by have := hgo k hk; omega))
  have c2 := c1.moved (Keep.of_grown hg) hat
  have c3 := c2.kept (V := w5.setCell ⟨B, 2, none⟩ v') (show Keep (B + 1) v'.ownBlock w5 _ from ⟨by rw [hss]; exact Nat.le_refl _, fun k hk _ _ => far k (by omega)⟩)
  have hbV : Below B w V := hb.trans (hV.mono (by omega))
  have hb5 : Below B w w5 := ⟨hg.os.trans hbV.os, hg.tape.trans hbV.tape, hg.output.trans hbV.output, Nat.le_trans hbV.size hg.size, fun k hk => (hg.block k (by have := hV.size; omega) (fun e => by have := hgo k e.symm; omega)).trans (hbV.block k hk)⟩
  refine ⟨hd5.set2 v', ?_, c3, hb5.setCell (Nat.le_refl _) _⟩
  rw [List.length_append]
  refine ⟨own5.1, own5.2.imp_right ?_⟩
  rintro ⟨g, cap, cur, e, h1, h2, r⟩
  exact ⟨g, cap, cur, e, h1, (far g (by omega)).trans h2, r⟩
theorem read_ret {tmps : Array Value} {W : World} {g : Nat} (hp : tmps.getD 6 undef = .pointer (some ⟨g, 0, none⟩)) {x y z : Value} (hd : Trip W g 45 x y z) :
    (results Tryz.f90 tmps).run Tryz.prog W = .ok (.tuple #[.agg #[x, y, z], tmps.getD 7 undef, tmps.getD 8 undef]) W := item_ret (fn := Tryz.f90) (p := 6) rfl hp hd

set_option maxRecDepth 100000 in
set_option maxHeartbeats 8000000 in
theorem read_of (d : Nat) (hd1 : 1 ≤ d) (hd8 : d ≤ 8) (ih : ∀ d', d' + 1 = d → 1 ≤ d' → ReadOn d') : ReadOn d := by
  intro v l p w h hl hpl
  have hby := h.all_byte
  obtain ⟨a0, c, rfl⟩ := h.shape l.length rfl
  have hlc : l.length ≤ c := by obtain ⟨_, _, e', hc, _⟩ := h; cases e'; exact hc
  obtain ⟨R, hR⟩ : ∃ R, readAt l p d = R := ⟨_, rfl⟩
  rw [hR]
  obtain ⟨B, hB⟩ : ∃ B, w.heap.size = B := ⟨_, rfl⟩
  rw [hB]
  have q0 := Trip.new w 45 (.int .i64 0) (.slice none 0 0) (.slice none 0 0)
  have hb0 := (Below.refl w.heap.size w).alloc (Nat.le_refl _) (.cells #[.int .i64 0, .slice none 0 0, .slice none 0 0] 45)
  obtain ⟨W, hW⟩ : ∃ W, w.alloc (.cells #[.int .i64 0, .slice none 0 0, .slice none 0 0] 45) = W := ⟨_, rfl⟩
  rw [hW] at q0 hb0
  have r0 := h.below hb0
  rw [hB] at q0 hb0
  obtain ⟨n0, hn0⟩ : ∃ n, l.length = n := ⟨_, rfl⟩
  have hC := head_any _ l p W r0 hl hpl
  rw [hn0] at hl hpl hlc r0 hC ⊢
  have HR := Lib.hid hR; have HW := Lib.hid hW; have HB := Lib.hid hB; have R0 := Lib.hid r0; have HBy := Lib.hid hby; have HB0 := Lib.hid hb0; have Q0 := Lib.hid q0; have HN0 := Lib.hid hn0
  clear hR hW hB r0 hby hb0 q0 h hn0
  go_enter Tryz.func90, Tryz.ntmps90
  go_wp2_with fail
  rw [HW.out]
  (try rw [HB.out])
  (try go_wp2_with fail)
  refine hC.mono ?_; rintro e w1 ⟨rfl, hb⟩
  have hB1 := HB0.out.trans (hb.mono (by have := Q0.out.lt; omega))
  have q1 := trip_stp Q0.out hb
  have r1 := R0.out.below hb
  have HB1 := Lib.hid hB1; have Q1 := Lib.hid q1; have R1 := Lib.hid r1
  clear hC hb hB1 q1 r1
  cases hh : headR l p with
  | error e =>
    rw [show headV (.error e) = .agg #[.int .i64 0, .int .i64 0, .int .i64 0, .int .i64 e] from rfl]
    obtain ⟨hg, he⟩ := head_err hh hd1
    have hr : R = .error e := by rw [← HR.out, readAt, hg]
    have HE := Lib.hid hr
    have hB2 := HB1.out.alloc (Nat.le_of_lt Q1.out.lt) (.cells #[.int .i64 0, .int .i64 0, .int .i64 0, .int .i64 e] 137)
    have q2 := Q1.out.alloc (.cells #[.int .i64 0, .int .i64 0, .int .i64 0, .int .i64 e] 137)
    have HB2 := Lib.hid hB2; have Q2 := Lib.hid q2
    clear hg hr hh hB2
    have f0 := q2.free 0; have f1 := q2.free 1; have f2 := q2.free 2; have x0 := q2.cell0; have x1 := q2.cell1; have x2 := q2.cell2; have xl := q2.lt
    clear q2
    rcases he with rfl | rfl
    all_goals
      go_wp2_with fail
      go_region
      all_goals
        go_wp2_with fail
        refine bodyPost_ret (read_ret rfl (trip3 Q2.out _ _ _)) rfl ?_
        exact ⟨by rw [HE.out]; rfl, (bel3' HB2.out (Nat.le_refl _) _ _ _).drew⟩
  | ok q =>
    obtain ⟨t, n, a⟩ := q
    rw [show headV (.ok (t, n, a)) = .agg #[.int .i64 t, .int .i64 n, .int .i64 a, .int .i64 0] from rfl]
    obtain ⟨hpa, hal, hkn, hn6, hg⟩ := head_ok HBy.out hh hd1
    rw [HN0.out] at hal hg
    have hRR : R = match Dm.get d (l.drop p) with | .error e => .error e | .ok (x, r) => .ok (x, n0 - r.length) := by rw [← HR.out, readAt, HN0.out]
    obtain ⟨b, off, rfl, -, -⟩ := R1.out.cellAt p (by rw [HN0.out]; omega)
    have HG := Lib.hid hg; have HRR := Lib.hid hRR
    clear hg hRR hh
    have f0 := Q1.out.free 0; have f1 := Q1.out.free 1; have f2 := Q1.out.free 2; have x0 := Q1.out.cell0; have x1 := Q1.out.cell1; have x2 := Q1.out.cell2; have xl := Q1.out.lt
    have e1 : IntKind.i64.wrap ((a : Int) - (p : Int)) = (a : Int) - (p : Int) := IntWalk.i64_in _ (by omega)
    have e2 : IntKind.i64.wrap ((a : Int) - (p : Int) + (n : Int)) = (a : Int) - (p : Int) + (n : Int) := IntWalk.i64_in _ (by omega)
    by_cases h8 : 8192 < a - p + n
    · have hr : R = .error 71 := by rw [HRR.out, HG.out, if_pos h8]
      have HE := Lib.hid hr
      have h8' : (8192 : Int) < (a : Int) - (p : Int) + (n : Int) := by omega
      clear hr h8
      go_wp2_with fail
      refine bodyPost_ret (read_ret rfl ((trip3 Q1.out (.int .i64 0) (.slice none 0 0) (.slice none 0 0)).alloc (.cells #[.int .i64 t, .int .i64 n, .int .i64 a, .int .i64 0] 137))) rfl ?_
      exact ⟨by rw [HE.out]; rfl, (bel3' HB1.out (Nat.le_refl _) _ _ _).alloc (by simp; exact Nat.le_of_lt Q1.out.lt) _⟩
    have h8' : ¬ (8192 : Int) < (a : Int) - (p : Int) + (n : Int) := by omega
    have hg2 := HG.out
    rw [if_neg h8] at hg2
    have e3 : IntKind.i64.wrap ((n0 : Int) - (a : Int)) = (n0 : Int) - (a : Int) := IntWalk.i64_in _ (by omega)
    by_cases hm : n0 - a < n
    · rw [if_pos hm] at hg2
      have hr : R = .error 70 := by rw [HRR.out, hg2]
      have HE := Lib.hid hr
      have hm' : (n0 : Int) - (a : Int) < (n : Int) := by omega
      clear hr hg2 hm h8
      go_wp2_with fail
      refine bodyPost_ret (read_ret rfl ((trip3 Q1.out (.int .i64 0) (.slice none 0 0) (.slice none 0 0)).alloc (.cells #[.int .i64 t, .int .i64 n, .int .i64 a, .int .i64 0] 137))) rfl ?_
      exact ⟨by rw [HE.out]; rfl, (bel3' HB1.out (Nat.le_refl _) _ _ _).alloc (by simp; exact Nat.le_of_lt Q1.out.lt) _⟩
    rw [if_neg hm] at hg2
    have hm' : ¬ (n0 : Int) - (a : Int) < (n : Int) := by omega
    obtain ⟨E, hE⟩ : ∃ E, a + n = E := ⟨_, rfl⟩
    have hEn : E ≤ n0 := by omega
    have haE : a ≤ E := by omega
    have e4 : IntKind.i64.wrap ((a : Int) + (n : Int)) = (E : Int) := (IntWalk.i64_in _ (by omega)).trans (by omega)
    rw [hE] at hg2
    have hEnd : n0 - (l.drop E).length = E := by rw [List.length_drop, HN0.out]; omega
    have HG2 := Lib.hid hg2; have HE0 := Lib.hid hE; have HEnd := Lib.hid hEnd
    clear hg2 HG hE hm h8 hEnd
    by_cases h48 : t = 48
    case neg =>
      have h48' : (t != 48) = true := by simpa using h48
      obtain ⟨WX, hWX⟩ : ∃ WX, (w1.alloc (.cells #[.int .i64 t, .int .i64 n, .int .i64 a, .int .i64 0] 137)).alloc (.cells #[.int .i64 t, .slice none 0 0, .slice none 0 0] 45) = WX := ⟨_, rfl⟩
      have hbX : Below w1.heap.size w1 WX := by rw [← hWX]; exact ((Below.refl _ w1).alloc (Nat.le_refl _) _).alloc (by simp) _
      have hXs : WX.heap.size = w1.heap.size + 2 := by rw [← hWX, World.size_alloc, World.size_alloc]
      have qX : Trip WX (w1.heap.size + 1) 45 (.int .i64 t) (.slice none 0 0) (.slice none 0 0) := by
        rw [← hWX]
        have := Trip.new (w1.alloc (.cells #[.int .i64 t, .int .i64 n, .int .i64 a, .int .i64 0] 137)) 45 (.int .i64 t) (.slice none 0 0) (.slice none 0 0)
        rwa [World.size_alloc] at this
      have a0 : AccR WX (WX.alloc (.cells #[] 5)) (.slice (some ⟨w1.heap.size + 2, 0, none⟩) 0 0) [] := by
        rw [← hXs]; exact AccR.empty WX
      have HWX := Lib.hid hWX; have HBX := Lib.hid hbX; have QX := Lib.hid qX; have A0 := Lib.hid a0; have HXs := Lib.hid hXs
      clear hWX hbX qX a0 hXs
      have g1 : (0 : Int) ≤ (a : Int) := by omega
      have g2 : (a : Int) ≤ (E : Int) := by omega
      have g3 : (E : Int) ≤ (c : Int) := by omega
      obtain ⟨C, hC⟩ : ∃ C, (l.drop a).take n = C := ⟨_, rfl⟩
      have hCn : C.length = n := by rw [← hC, List.length_take, List.length_drop, HN0.out]; have := HE0.out; omega
      have hg3 := HG2.out
      rw [if_neg h48, hC] at hg3
      have HCn := Lib.hid hCn; have HG3 := Lib.hid hg3
      clear hCn hg3
      by_cases hca : c = a
      · obtain rfl : n = 0 := by have := HE0.out; omega
        obtain rfl : E = a := by have := HE0.out; omega
        have hC0 : C = [] := List.eq_nil_of_length_eq_zero HCn.out
        have rC : Row .u8 WX (.slice (some ⟨b, off, none⟩) 0 0) C := by rw [hC0]; exact Row.empty _ _ _ _ (by unfold maxLen; omega) (fun h => by cases h)
        have RC := Lib.hid rC
        have hwt : (Lit.int .i64 t).wf = true := by
          obtain ⟨i, hi, hti⟩ := (known_iff t).1 hkn
          match i, hi with
          | 0, _ => rw [← hti]; decide
          | 1, _ => rw [← hti]; decide
          | 2, _ => rw [← hti]; decide
          | 3, _ => rw [← hti]; decide
          | 4, _ => rw [← hti]; decide
        clear rC hC0
        subst hca
        have hC0 : C = [] := List.eq_nil_of_length_eq_zero HCn.out
        obtain ⟨W5, hW5⟩ : ∃ V, ((w1.alloc (.cells #[.int .i64 t, .int .i64 (0 : Nat), .int .i64 c, .int .i64 0] 137)).alloc (.cells #[.int .i64 t, .slice (some ⟨w1.heap.size + 1 + 1, 0, none⟩) 0 0, .slice none 0 0] 45)).alloc (.cells #[] 5) = V := ⟨_, rfl⟩
        have HI : Hid (ItP W5 (.slice (some ⟨w1.heap.size + 1 + 1, 0, none⟩) 0 0) (.slice none 0 0) (.mk t C [])) := Lib.hid ⟨hwt, by rw [hC0]; exact Row.empty _ _ _ _ (by unfold maxLen; omega) (fun h => by cases h), ItsV.nil _⟩
        have OW5 : Hid (Own (B + 1) none W5 (.slice (some ⟨w1.heap.size + 1 + 1, 0, none⟩) 0 0) (.slice none 0 0) (.mk t C [])) := Lib.hid (Own.bytes hwt (by rw [hC0]; exact Row.empty _ _ _ _ (by unfold maxLen; omega) (fun h => by cases h)) (by rintro bb oo nn cc e0 h0; cases e0; omega))
        have QX5 : Hid (Trip W5 (w1.heap.size + 1) 45 (.int .i64 t) (.slice (some ⟨w1.heap.size + 1 + 1, 0, none⟩) 0 0) (.slice none 0 0)) := Lib.hid (by
          rw [← hW5]
          have := (Trip.new (w1.alloc (.cells #[.int .i64 t, .int .i64 (0 : Nat), .int .i64 c, .int .i64 0] 137)) 45 (.int .i64 t) (.slice (some ⟨w1.heap.size + 1 + 1, 0, none⟩) 0 0) (.slice none 0 0)).alloc (.cells #[] 5)
          rwa [World.size_alloc] at this)
        have QB5 : Hid (Trip W5 B 45 (.int .i64 0) (.slice none 0 0) (.slice none 0 0)) := Lib.hid (by rw [← hW5]; exact ((Q1.out.alloc _).alloc _).alloc _)
        have BB5 : Hid (Below B w W5) := Lib.hid (by rw [← hW5]; exact ((HB1.out.alloc (Nat.le_of_lt Q1.out.lt) _).alloc (by have := Q1.out.lt; simp; omega) _).alloc (by have := Q1.out.lt; simp; omega) _)
        have HW5 := Lib.hid hW5
        clear hW5 hC0 RC A0 QX HWX HBX HXs
        go_wp2_with fail
        rw [show (Value.int .i64 0) = Value.int .i64 ((0 : Nat) : Int) from rfl] at *
        rw [HW5.out]

        have hfm : Dm.form (.mk t C []) = Dm.mayB t C := by
          rw [form_eq]
          show ((decide (t = 48) || true) && Dm.mayB t C && true) = _
          rw [Bool.or_true, Bool.true_and, Bool.and_true]
        have hC := Form_any (.mk t C []) W5 _ _ HI.out
        obtain ⟨M, hM⟩ : ∃ M, Dm.mayB t C = M := ⟨_, rfl⟩
        have hg4 := HG3.out
        rw [hfm, hM] at hC
        rw [hM] at hg4
        have HG4 := Lib.hid hg4
        clear hfm hM hg4
        refine hC.mono ?_; rintro e w6 ⟨rfl, hb6⟩
        have q6 := trip_stp QX5.out hb6
        have qB6 := trip_stp QB5.out hb6
        have bb6 := BB5.out.trans (hb6.mono (Nat.le_of_lt QB5.out.lt))
        have ow6 := OW5.out.kept (Keep.of_below hb6 (Nat.le_refl _))
        have y0 := q6.cell0; have y1 := q6.cell1; have y2 := q6.cell2
        have f0 := qB6.free 0; have f1 := qB6.free 1; have f2 := qB6.free 2; have x0 := qB6.cell0; have x1 := qB6.cell1; have x2 := qB6.cell2; have xl := qB6.lt
        have QB6 := Lib.hid qB6; have BB6 := Lib.hid bb6; have OW6 := Lib.hid ow6
        clear hC hb6 q6 qB6 bb6 ow6 QX5 QB5 BB5 OW5 HI
        cases M with
        | false =>
          have hr : R = .error 71 := by rw [HRR.out, HG4.out, if_neg (by decide)]
          have HE := Lib.hid hr
          clear hr
          go_wp2_with fail
          refine bodyPost_ret (read_ret rfl (trip3 QB6.out _ _ _)) rfl ?_
          exact ⟨by rw [HE.out]; rfl, bel3' BB6.out (Nat.le_refl _) _ _ _⟩
        | true =>
          have hr : R = .ok (.mk t C [], c) := by rw [HRR.out, HG4.out, if_pos rfl]; simp only [HEnd.out]
          have HE := Lib.hid hr
          clear hr
          go_wp2_with fail
          refine bodyPost_ret (read_ret rfl (trip3 QB6.out _ _ _)) rfl ?_
          rw [HE.out]
          refine ⟨⟨some ⟨w1.heap.size + 1 + 1, 0, none⟩, 0, none, 0, ?_, ?_⟩, bel3' BB6.out (Nat.le_refl _) _ _ _⟩
          · rw [show (Dm.It.mk t C []).b.length = 0 from HCn.out]; rfl
          · rw [show (Dm.It.mk t C []).b.length = 0 from HCn.out]
            exact (OW6.out.kept ⟨by simp, fun g hg _ _ => ((Below.heap_setCell _ ⟨B, 2, none⟩ _ g (show g ≠ B by omega)).trans (Below.heap_setCell _ ⟨B, 1, none⟩ _ g (show g ≠ B by omega))).trans (Below.heap_setCell _ ⟨B, 0, none⟩ _ g (show g ≠ B by omega))⟩).mono (Nat.le_succ B)
      have hca' : a < c := by omega
      have rC := Row.take (Row.cut (R1.out.below HBX.out) a (by rw [HN0.out]; exact hal) hca') n (by rw [List.length_drop, HN0.out]; have := HE0.out; omega)
      rw [Option.map_some, addr_add, hC] at rC
      have hnE : E - a = n := by have := HE0.out; omega
      have RC := Lib.hid rC
      clear rC
      go_wp2_with (first
        | (at_builtin; rw [HWX.out]; refine wpList_plain rfl fun Kx hKx => ?_; refine wp_app (.tmp 54) (.tmp 59) rfl WX.heap.size A0.out.bel.size _ [] rfl A0.out.own _ C (A0.out.row RC.out) rfl (by rw [HCn.out]; simp; omega) ?_; intro u4 w4 ap4
           have A1 := Lib.hid (A0.out.app ap4)
           have rr := Row.of_bytes A1.out.own (by rw [List.nil_append]; exact RC.out.all_byte)
           rw [List.nil_append] at rr
           obtain ⟨a4, c4, rfl⟩ := rr.shape n HCn.out
           have q4 := trip_stp QX.out A1.out.bel
           have RR := Lib.hid rr; have Q4 := Lib.hid q4; refine hKx _ _ ?_; clear ap4 rr
           have k0 := q4.free 0; have k1 := q4.free 1; have k2 := q4.free 2; have y0 := q4.cell0; have y1 := q4.cell1; have y2 := q4.cell2; have yl := q4.lt
           clear q4)
        | fail)
      have hwt : (Lit.int .i64 t).wf = true := by
        obtain ⟨i, hi, hti⟩ := (known_iff t).1 hkn
        match i, hi with
        | 0, _ => rw [← hti]; decide
        | 1, _ => rw [← hti]; decide
        | 2, _ => rw [← hti]; decide
        | 3, _ => rw [← hti]; decide
        | 4, _ => rw [← hti]; decide

      have hXs := HXs.out
      have hlB := Q1.out.lt
      obtain ⟨W5, hW5⟩ : ∃ V, w4.setCell ⟨w1.heap.size + 1, 1, none⟩ (.slice a4 n c4) = V := ⟨_, rfl⟩
      have hoff := RR.out.off_trip Q4.out
      have hrw : Row .u8 W5 (.slice a4 n c4) C := by rw [← hW5]; exact RR.out.aside (p := ⟨w1.heap.size + 1, 1, none⟩) hoff _
      have HI : Hid (ItP W5 (.slice a4 n c4) (.slice none 0 0) (.mk t C [])) := Lib.hid ⟨hwt, hrw, ItsV.nil _⟩
      have OW5 : Hid (Own (B + 1) none W5 (.slice a4 n c4) (.slice none 0 0) (.mk t C [])) := Lib.hid (Own.bytes hwt hrw (by
        rintro bb oo nn cc e0 h0
        cases e0
        have := (OwnB.blk A1.out.own bb rfl).1; omega))
      have QX5 : Hid (Trip W5 (w1.heap.size + 1) 45 (.int .i64 t) (.slice a4 n c4) (.slice none 0 0)) := Lib.hid (by rw [← hW5]; exact Q4.out.set1 _)
      have QB4 : Trip w4 B 45 (.int .i64 0) (.slice none 0 0) (.slice none 0 0) := trip_stp (trip_stp Q1.out HBX.out) A1.out.bel
      have QB5 : Hid (Trip W5 B 45 (.int .i64 0) (.slice none 0 0) (.slice none 0 0)) := Lib.hid (by rw [← hW5]; exact QB4.other (p := ⟨w1.heap.size + 1, 1, none⟩) (by show w1.heap.size + 1 ≠ B; omega) _)
      have BB5 : Hid (Below B w W5) := Lib.hid (by
        rw [← hW5]
        exact ((HB1.out.trans (HBX.out.mono (Nat.le_of_lt hlB))).trans (A1.out.bel.mono (by omega))).setCell (p := ⟨w1.heap.size + 1, 1, none⟩) (show B ≤ w1.heap.size + 1 by omega) _)
      have HW5 := Lib.hid hW5
      clear hW5 hrw QB4 hoff
      rw [HW5.out]

      have hfm : Dm.form (.mk t C []) = Dm.mayB t C := by
        rw [form_eq]
        show ((decide (t = 48) || true) && Dm.mayB t C && true) = _
        rw [Bool.or_true, Bool.true_and, Bool.and_true]
      have hC := Form_any (.mk t C []) W5 _ _ HI.out
      obtain ⟨M, hM⟩ : ∃ M, Dm.mayB t C = M := ⟨_, rfl⟩
      have hg4 := HG3.out
      rw [hfm, hM] at hC
      rw [hM] at hg4
      have HG4 := Lib.hid hg4
      clear hfm hM hg4
      refine hC.mono ?_; rintro e w6 ⟨rfl, hb6⟩
      have q6 := trip_stp QX5.out hb6
      have qB6 := trip_stp QB5.out hb6
      have bb6 := BB5.out.trans (hb6.mono (Nat.le_of_lt QB5.out.lt))
      have ow6 := OW5.out.kept (Keep.of_below hb6 (Nat.le_refl _))
      have y0 := q6.cell0; have y1 := q6.cell1; have y2 := q6.cell2
      have f0 := qB6.free 0; have f1 := qB6.free 1; have f2 := qB6.free 2; have x0 := qB6.cell0; have x1 := qB6.cell1; have x2 := qB6.cell2; have xl := qB6.lt
      have QB6 := Lib.hid qB6; have BB6 := Lib.hid bb6; have OW6 := Lib.hid ow6
      clear hC hb6 q6 qB6 bb6 ow6 QX5 QB5 BB5 OW5 HI
      cases M with
      | false =>
        have hr : R = .error 71 := by rw [HRR.out, HG4.out, if_neg (by decide)]
        have HE := Lib.hid hr
        clear hr
        go_wp2_with fail
        refine bodyPost_ret (read_ret rfl (trip3 QB6.out _ _ _)) rfl ?_
        exact ⟨by rw [HE.out]; rfl, bel3' BB6.out (Nat.le_refl _) _ _ _⟩
      | true =>
        have hr : R = .ok (.mk t C [], E) := by rw [HRR.out, HG4.out, if_pos rfl]; simp only [HEnd.out]
        have HE := Lib.hid hr
        clear hr
        go_wp2_with fail
        refine bodyPost_ret (read_ret rfl (trip3 QB6.out _ _ _)) rfl ?_
        rw [HE.out]
        refine ⟨⟨a4, c4, none, 0, ?_, ?_⟩, bel3' BB6.out (Nat.le_refl _) _ _ _⟩
        · rw [show (Dm.It.mk t C []).b.length = n from HCn.out]; rfl
        · rw [show (Dm.It.mk t C []).b.length = n from HCn.out]
          exact (OW6.out.kept ⟨by simp, fun g hg _ _ => ((Below.heap_setCell _ ⟨B, 2, none⟩ _ g (show g ≠ B by omega)).trans (Below.heap_setCell _ ⟨B, 1, none⟩ _ g (show g ≠ B by omega))).trans (Below.heap_setCell _ ⟨B, 0, none⟩ _ g (show g ≠ B by omega))⟩).mono (Nat.le_succ B)
    subst h48
    have hg3 := HG2.out
    rw [if_pos rfl] at hg3
    obtain ⟨T, hT⟩ : ∃ T, l.take E = T := ⟨_, rfl⟩
    obtain ⟨inn, hinn⟩ : ∃ x, (l.drop a).take n = x := ⟨_, rfl⟩
    have hTl : T.length = E := by rw [← hT, List.length_take, HN0.out]; omega
    have hia : inn = T.drop a := by rw [← hinn, ← hT, List.drop_take]; congr 1; have := HE0.out; omega
    rw [hinn] at hg3
    have hTb : ∀ y ∈ T, byte y := fun y hy => HBy.out y (by rw [← hT] at hy; exact List.mem_of_mem_take hy)
    have hEna : E - a = n := by have := HE0.out; omega
    have HG3 := Lib.hid hg3; have HTl := Lib.hid hTl; have HIA := Lib.hid hia; have HT := Lib.hid hT; have HTB := Lib.hid hTb; have HEna := Lib.hid hEna
    clear hg3 hT hinn hTl hia hTb hEna
    have hbX : Below (w1.heap.size + 1) (w1.alloc (.cells #[.int .i64 48, .int .i64 n, .int .i64 a, .int .i64 0] 137)) ((w1.alloc (.cells #[.int .i64 48, .int .i64 n, .int .i64 a, .int .i64 0] 137)).alloc (.cells #[.int .i64 48, .slice none 0 0, .slice none 0 0] 45)) := (Below.refl _ _).alloc (by simp) _
    have qX : Trip ((w1.alloc (.cells #[.int .i64 48, .int .i64 n, .int .i64 a, .int .i64 0] 137)).alloc (.cells #[.int .i64 48, .slice none 0 0, .slice none 0 0] 45)) (w1.heap.size + 1) 45 (.int .i64 48) (.slice none 0 0) (.slice none 0 0) := by
      have := Trip.new (w1.alloc (.cells #[.int .i64 48, .int .i64 n, .int .i64 a, .int .i64 0] 137)) 45 (.int .i64 48) (.slice none 0 0) (.slice none 0 0)
      rwa [World.size_alloc] at this
    have hs0 := World.ownsRow_nil ((w1.alloc (.cells #[.int .i64 48, .int .i64 n, .int .i64 a, .int .i64 0] 137)).alloc (.cells #[.int .i64 48, .slice none 0 0, .slice none 0 0] 45)) (w1.heap.size + 1 + 1) 45 3
    obtain ⟨WP, hWP⟩ : ∃ V, w1.alloc (.cells #[.int .i64 48, .int .i64 n, .int .i64 a, .int .i64 0] 137) = V := ⟨_, rfl⟩
    have hbP : Below w1.heap.size w1 WP := by rw [← hWP]; exact (Below.refl _ w1).alloc (Nat.le_refl _) _
    have hWPs : WP.heap.size = w1.heap.size + 1 := by rw [← hWP, World.size_alloc]
    have HBX := Lib.hid hbX; have QX := Lib.hid qX; have HS0 := Lib.hid hs0; have HBP := Lib.hid hbP; have HWPs := Lib.hid hWPs
    have HWP := Lib.hid hWP
    clear hbX qX hs0 hWP hbP hWPs
    go_wp2_with fail
    go_loopw [12, 13, 14, 15] (fun i _ _ _ wr => ∃ (k : Nat) (ys : List Dm.It) (lv : Value) (xs : List Value), i = .int .i64 k ∧ a ≤ k ∧ k ≤ E ∧ Trip wr (w1.heap.size + 1) 45 (.int .i64 48) (.slice none 0 0) lv ∧ wr.ownsRow (w1.heap.size + 1 + 1) 45 3 lv ys.length xs ∧ Cells (w1.heap.size + 1 + 1) lv.ownBlock wr xs ys ∧
      Dm.many (subGet d) inn.length inn = (Dm.many (subGet d) (T.drop k).length (T.drop k)).map (ys ++ ·) ∧ ys.length + (E - k) ≤ n ∧ Below (w1.heap.size + 1) WP wr) (fun i _ _ _ _ => E - (intOf i).toNat)
    case atStart => exact ⟨a, [], _, [], rfl, Nat.le_refl _, haE, QX.out, HS0.out, rfl, by rw [HIA.out]; simp, by rw [HEna.out]; simp, by rw [← HWP.out]; exact HBX.out⟩
    case round =>
      obtain ⟨k, ys, lv, xs, rfl, hak, hkE, hd, ho, hc, hmn, hle, hb⟩ := hrel
      have hsz := hb.size
      have qB : Trip wr B 45 (.int .i64 0) (.slice none 0 0) (.slice none 0 0) := (hb.block B (by have := Q1.out.lt; omega)).trans (trip_stp Q1.out HBP.out)
      have bB : Below B w wr := (HB1.out.trans (HBP.out.mono (Nat.le_of_lt Q1.out.lt))).trans (hb.mono (by have := Q1.out.lt; omega))
      have rT : Row .u8 wr (.slice (some ⟨b, off, none⟩) E c) T := by
        have h9 := Row.take (((R1.out.below HBP.out).below (hb.mono (by have := HWPs.out; omega)))) E (by rw [HN0.out]; exact hEn)
        rwa [HT.out] at h9
      obtain ⟨al, nl, cl, rfl⟩ := owns_slice ho
      have HO := Lib.hid ho; have HCe := Lib.hid hc; have HMn := Lib.hid hmn; have HLe := Lib.hid hle; have HD := Lib.hid hd; have HBw := Lib.hid hb; have QB := Lib.hid qB; have BB := Lib.hid bB; have RT := Lib.hid rT; have HSZ := Lib.hid hsz
      clear ho hc hmn hle hb qB bB rT hsz
      have k0 : (0 : Int) ≤ (k : Int) := by omega
      have z0 := hd.free 0; have z1 := hd.free 1; have z2 := hd.free 2; have y0 := hd.cell0; have y1 := hd.cell1; have y2 := hd.cell2; have yl := hd.lt
      have f0 := QB.out.free 0; have f1 := QB.out.free 1; have f2 := QB.out.free 2; have x0 := QB.out.cell0; have x1 := QB.out.cell1; have x2 := QB.out.cell2; have xl := QB.out.lt
      have hBX : B < w1.heap.size + 1 := by have := Q1.out.lt; omega
      have nBX : ¬ B = w1.heap.size + 1 := by omega
      have nXB : ¬ w1.heap.size + 1 = B := by omega
      clear hd
      by_cases hkl : k < E
      case neg =>
        obtain rfl : k = E := by omega
        have hke : ¬ (k : Int) < (k : Int) := by omega
        have hnl : nl = ys.length := by
          rcases HO.out.2 with ⟨h1, h2⟩ | ⟨g', cap', cur, h1, _⟩
          · cases h1; omega
          · cases h1; rfl
        subst hnl
        have hdn : T.drop k = [] := List.drop_eq_nil_of_le (by rw [HTl.out]; exact Nat.le_refl _)
        have hr : R = .ok (.mk 48 [] ys, k) := by
          rw [HRR.out, HG3.out, HMn.out, hdn, many_end]
          show Except.ok (Dm.It.mk 48 [] (ys ++ []), n0 - (l.drop k).length) = _
          rw [List.append_nil, HEnd.out]
        have HE := Lib.hid hr
        clear hr hdn
        go_wp2_with fail
        refine bodyPost_ret (read_ret rfl (trip3 QB.out _ _ _)) rfl ?_
        rw [HE.out]
        refine ⟨⟨none, 0, al, cl, rfl, ?_⟩, bel3' BB.out (Nat.le_refl _) _ _ _⟩
        exact ((Own.seq (by decide) HO.out HCe.out).kept ⟨by simp, fun g hg _ _ => ((Below.heap_setCell _ ⟨B, 2, none⟩ _ g (show g ≠ B by omega)).trans (Below.heap_setCell _ ⟨B, 1, none⟩ _ g (show g ≠ B by omega))).trans (Below.heap_setCell _ ⟨B, 0, none⟩ _ g (show g ≠ B by omega))⟩).mono (by omega)
      have hk1 : (k : Int) < (E : Int) := by omega
      have hne : T.drop k ≠ [] := by
        intro h9
        have := congrArg List.length h9
        rw [List.length_drop, HTl.out] at this
        simp at this; omega
      have stop : ∀ e, subGet d (T.drop k) = .error e → R = .error 71 := fun e h9 => by
        have hm0 : Dm.many (subGet d) (T.drop k).length (T.drop k) = none := many_stop hne h9
        rw [HRR.out, HG3.out, HMn.out, hm0]; rfl
      have STOP := Lib.hid stop; have HNE := Lib.hid hne
      clear stop hne
      by_cases hd2 : d ≤ 1
      · obtain rfl : d = 1 := by omega
        have hr : R = .error 71 := by
          refine STOP.out 71 ?_
          cases hT9 : T.drop k with
          | nil => exact absurd hT9 HNE.out
          | cons t b1 =>
            show Dm.getW (fun _ => .error 71) false (t :: b1) = .error 71
            rw [Dm.getW_cons, Bool.and_false]; rfl
        have HE := Lib.hid hr
        clear hr
        go_wp2_with fail
        refine bodyPost_ret (read_ret rfl (trip3 QB.out _ _ _)) rfl ?_
        exact ⟨by rw [HE.out]; rfl, bel3' BB.out (Nat.le_refl _) _ _ _⟩
      obtain ⟨d', hd'⟩ : ∃ d', d' + 1 = d := ⟨d - 1, by omega⟩
      have wd : IntKind.i64.wrap ((d : Int) - 1) = (d' : Int) := (IntWalk.i64_in _ (by omega)).trans (by omega)
      have hd3 : ¬ (d : Int) ≤ 1 := by omega
      have hsub : subGet d = Dm.get d' := by rw [← hd']; rfl
      have hC := ih d' hd' (by omega) _ T k wr RT.out (by rw [HTl.out]; omega) (by rw [HTl.out]; omega)
      have g1 : (0 : Int) ≤ (E : Int) := by omega
      have g2 : (E : Int) ≤ (c : Int) := by omega
      have g3 : ¬ c = 0 := by omega
      have HSub := Lib.hid hsub
      clear hsub
      go_wp2_with fail
      refine hC.mono ?_; rintro e w2 ⟨hG, hb2⟩
      have qX2 := trip_stp (show Trip wr (w1.heap.size + 1) 45 (.int .i64 48) (.slice none 0 0) (.slice al nl cl) from HD.out) hb2
      have qB2 := trip_stp QB.out hb2
      have bB2 := BB.out.trans (hb2.mono (Nat.le_of_lt xl))
      have QX2 := Lib.hid qX2; have QB2 := Lib.hid qB2; have BB2 := Lib.hid bB2; have HW2 := Lib.hid hb2
      clear hC hb2 bB2 f0 f1 f2 x0 x1 x2 xl z0 z1 z2 y0 y1 y2 yl
      have z0 := qX2.free 0; have z1 := qX2.free 1; have z2 := qX2.free 2; have y0 := qX2.cell0; have y1 := qX2.cell1; have y2 := qX2.cell2; have yl := qX2.lt
      have f0 := qB2.free 0; have f1 := qB2.free 1; have f2 := qB2.free 2; have x0 := qB2.cell0; have x1 := qB2.cell1; have x2 := qB2.cell2; have xl := qB2.lt
      clear qX2 qB2
      unfold readAt at hG
      match hX : Dm.get d' (T.drop k), hG with
      | .error cc, hG =>
        have hG' : e = .returned (.tuple #[noV, .int .i64 0, .int .i64 cc]) := hG
        subst hG'
        have hr : R = .error 71 := STOP.out cc (by rw [HSub.out]; exact hX)
        have HE := Lib.hid hr
        have hcc := get_fail hX
        clear hr hX hG
        have hz := (trip3 QB2.out (.int .i64 0) (.slice none 0 0) (.slice none 0 0)).alloc (.cells #[.int .i64 0, .slice none 0 0, .slice none 0 0] 45)
        have hbz := (bel3' BB2.out (Nat.le_refl B) (.int .i64 0) (.slice none 0 0) (.slice none 0 0)).alloc (by have := BB2.out.size; have := QB2.out.lt; simp; omega) (.cells #[.int .i64 0, .slice none 0 0, .slice none 0 0] 45)
        have HZ := Lib.hid hz; have HBZ := Lib.hid hbz
        clear hz hbz
        rcases hcc with rfl | rfl
        all_goals
          go_wp2_with fail
          refine bodyPost_ret (read_ret rfl HZ.out) rfl ?_
          exact ⟨by rw [HE.out]; rfl, HBZ.out⟩
      | .ok (y, r'), hG =>
        obtain ⟨ab, cb, al2, cl2, rfl, hown⟩ := hG
        rw [HTl.out]
        have honly := Dm.get_only d' (T.drop k) y r' (fun z hz => by have := HTB.out z (List.mem_of_mem_drop hz); unfold byte at this; exact ⟨this.1, by omega⟩) hX
        have hln := congrArg List.length honly.2.1
        rw [List.length_append, Dm.bytes_len, List.length_drop, HTl.out] at hln
        have hly : 2 ≤ Dm.len y := by have h9 := wt_len' y; rw [Dm.wt_eq] at h9; omega
        obtain ⟨k2, hk2⟩ : ∃ q, E - r'.length = q := ⟨_, rfl⟩
        have hk2e : k2 = k + Dm.len y := by omega
        have hrd : T.drop k2 = r' := by rw [hk2e, ← List.drop_drop, ← honly.2.1, List.drop_left' (Dm.bytes_len y)]
        have hX' := hX
        rw [← HSub.out] at hX'
        have hms := many_step (fun b y r h => get_less d' b y r (by rw [← HSub.out]; exact h)) HNE.out hX'
        have hmn2 : Dm.many (subGet d) inn.length inn = (Dm.many (subGet d) (T.drop k2).length (T.drop k2)).map ((ys ++ [y]) ++ ·) := by
          rw [HMn.out, hms, Option.map_map, hrd]; congr 1; funext q; simp
        have hle2 : (ys ++ [y]).length + (E - k2) ≤ n := by have h1 := HLe.out; rw [List.length_append, List.length_singleton]; omega
        have hkk : k < k2 ∧ k2 ≤ E := by omega
        have hy63 : ys.length + 1 ≤ 65536 := by rw [List.length_append, List.length_singleton] at hle2; omega
        rw [hk2]
        have HMn2 := Lib.hid hmn2; have HLe2 := Lib.hid hle2; have HY := Lib.hid hown; have HY63 := Lib.hid hy63
        clear hX hX' hms hmn2 hle2 hown hy63 honly hln hly hk2e hrd hk2
        obtain ⟨j0, gi, gz0, gz1, gz2⟩ := info_parts info_item
        obtain ⟨nb, hnb⟩ : ∃ nb, y.b.length = nb := ⟨_, rfl⟩
        obtain ⟨nl2, hnl2⟩ : ∃ nl2, y.l.length = nl2 := ⟨_, rfl⟩
        rw [hnb, hnl2]
        have HY2 := HY.out
        rw [hnb, hnl2] at HY2
        have hk3 : Keep wr.heap.size none w2 (w2.alloc (.cells #[.int .i64 y.tag, .slice ab nb cb, .slice al2 nl2 cl2] 45)) := Keep.of_below ((Below.refl w2.heap.size w2).alloc (Nat.le_refl _) _) (Nat.le_refl _)
        obtain ⟨W3, hW3⟩ : ∃ W3, w2.alloc (.cells #[.int .i64 y.tag, .slice ab nb cb, .slice al2 nl2 cl2] 45) = W3 := ⟨_, rfl⟩
        have hy3 := HY2.kept hk3
        rw [hW3] at hy3
        have hb23 : Below w2.heap.size w2 W3 := by rw [← hW3]; exact (Below.refl _ w2).alloc (Nat.le_refl _) _
        have hbW3 : Below wr.heap.size wr W3 := HW2.out.trans (hb23.mono HW2.out.size)
        have ho3 := owns_keep HO.out hbW3
        have qX3 : Trip W3 (w1.heap.size + 1) 45 (.int .i64 48) (.slice none 0 0) (.slice al nl cl) := trip_stp QX2.out hb23
        have hs3 : W3.heap.size = w2.heap.size + 1 := by rw [← hW3, World.size_alloc]
        have HO3 := Lib.hid ho3; have HBW3 := Lib.hid hbW3; have HY4 := Lib.hid hy3; have HQX3 := Lib.hid qX3; have HW3 := Lib.hid hW3; have HS3 := Lib.hid hs3
        clear ho3 hbW3 hk3 hy3 qX3 hW3 hs3 hb23 HY2 HY hnb hnl2
        go_wp2_with (first
          | (at_builtin
             rw [HW3.out]
             refine wpList_append_own_at _ rfl (.tmp 91) (.tmp 93) 43 rfl (w1.heap.size + 1 + 1) 45 j0 (.agg #[.int .i64 0, .slice none 0 0, .slice none 0 0]) 3 56 Tryz.underlying43 gi gz0 gz1 gz2 rfl (by decide) (.slice al nl cl) ys.length xs rfl (HO3.out.alloc _) _ 1 1 [.int .i64 y.tag, .slice ab nb cb, .slice al2 nl2 cl2] rfl rfl (by have h9 := cells_new3 W3 (.int .i64 y.tag) (.slice ab nb cb) (.slice al2 nl2 cl2) 45; rw [HS3.out] at h9; exact h9) (by intro u hu; simp at hu; rcases hu with rfl | rfl | rfl <;> rfl) (by have := HY63.out; unfold maxLen; omega) (by have := HY63.out; omega) (by have := HBW3.out.size; have := HSZ.out; have := HWPs.out; have := HD.out.lt; simp; omega) ?_
             intro v' w5 own5 hgrow _ hat
             obtain ⟨a5, n5, c5, rfl⟩ := owns_slice own5
             have qX5 : Trip w5 (w1.heap.size + 1) 45 (.int .i64 48) (.slice none 0 0) (.slice al nl cl) := (hgrow.block (w1.heap.size + 1) (by have := HQX3.out.lt; simp; omega) (fun e => by have := (own_at HO.out e.symm).1; omega)).trans (HQX3.out.alloc _)
             have f5 := qX5.free 2
             have x5 := qX5.cell2)
          | fail)
        obtain ⟨s1, s2, s3, s4⟩ := seq_step' HD.out HO.out HCe.out HBw.out (HBW3.out.alloc HBW3.out.size _) (HY4.out.kept (Keep.of_below ((Below.refl W3.heap.size W3).alloc (Nat.le_refl _) _) (Nat.le_refl _))) hgrow own5 hat
        refine ⟨⟨k2, ys ++ [y], .slice a5 n5 c5, xs ++ [.int .i64 y.tag, .slice ab nb cb, .slice al2 nl2 cl2], rfl, by omega, hkk.2, s1, s2, s3, HMn2.out, HLe2.out, s4⟩, ?_⟩
        show E - (intOf (Value.int .i64 k2)).toNat < E - (intOf (Value.int .i64 k)).toNat
        simp [intOf]; omega
end Go.Proofs.YtfdchdnkblmijaaGreatDoor
end
