/-
  Walks over the document's answer (greatsealref07): least, text, Deep, form, May.
-/
import Derived.Test.YtpmiihmhfagfoaaDoorDe
namespace Go.Proofs.YtpmiihmhfagfoaaDoor
open Go.RowKit

set_option maxHeartbeats 1000000 in
theorem rLeast_any (v : Value) (l : List Int) (w : World) (h : Row .u8 w v l) :
    Calls Tryd.prog 76 #[v] w fun e w' => e = .returned (.bool (Dm.least l)) ∧ w = w' := by
  obtain ⟨a, c, rfl⟩ := h.shape l.length rfl
  match l, h with
  | [], h =>
    clear h
    go_enter Tryd.func76, Tryd.ntmps76
    go_wp2_with fail
    go_ret
    exact ⟨rfl, rfl⟩
  | [x], h =>
    clear h
    go_enter Tryd.func76, Tryd.ntmps76
    go_wp2_with fail
    go_ret
    exact ⟨rfl, rfl⟩
  | x :: y :: r, h =>
    obtain ⟨b, off, rfl, hlt, c0⟩ := h.cellAt 0 (by simp)
    obtain ⟨_, _, e', _, c1⟩ := h.cellAt 1 (by simp)
    cases e'
    simp only [List.getElem?_cons_zero, List.getElem?_cons_succ, Option.getD_some, Nat.add_zero] at c0 c1
    have hlst : Dm.least (x :: y :: r) = (decide (r.length ≤ 6) && !decide (x = if y < 128 then 0 else 255)) := rfl
    obtain ⟨n, hn⟩ : ∃ n, (x :: y :: r).length = n := ⟨_, rfl⟩
    have hr : r.length + 2 = n := by simpa using hn
    rw [hn]
    have HL := Lib.hid hlst
    clear hlst h hn
    have n1 : ¬ (n : Int) < 1 := by omega
    have n2 : ((n : Int) == 1) = false := beq_eq_false_iff_ne.2 (by omega)
    have n3 : (1 : Int) < (n : Int) := by omega
    have n4 : (0 : Int) < (n : Int) := by omega
    by_cases h8 : (8 : Int) < (n : Int)
    · have hE : Dm.least (x :: y :: r) = false := by rw [HL.out, decide_eq_false (show ¬ r.length ≤ 6 by omega)]; rfl
      have HE := Lib.hid hE
      clear hE hr
      go_enter Tryd.func76, Tryd.ntmps76
      go_wp2_with fail
      go_ret
      exact ⟨by rw [HE.out]; rfl, rfl⟩
    have h6 : decide (r.length ≤ 6) = true := decide_eq_true (by omega)
    rw [h6, Bool.true_and] at HL
    clear h6 hr
    by_cases hy : y < 128
    · rw [if_pos hy] at HL
      by_cases hx0 : x = 0
      · subst hx0
        go_enter Tryd.func76, Tryd.ntmps76
        go_wp2_with fail
        go_ret
        exact ⟨by rw [HL.out]; rfl, rfl⟩
      · rw [decide_eq_false hx0] at HL
        have hx1 : (x == 0) = false := beq_eq_false_iff_ne.2 hx0
        have hy2 : ¬ 128 ≤ y := by omega
        by_cases hx2 : x = 255
        · subst hx2
          go_enter Tryd.func76, Tryd.ntmps76
          go_wp2_with fail
          go_ret
          exact ⟨by rw [HL.out]; rfl, rfl⟩
        · have hx3 : (x == 255) = false := beq_eq_false_iff_ne.2 hx2
          go_enter Tryd.func76, Tryd.ntmps76
          go_wp2_with fail
          go_ret
          exact ⟨by rw [HL.out]; rfl, rfl⟩
    · rw [if_neg hy] at HL
      have hy2 : 128 ≤ y := by omega
      by_cases hx2 : x = 255
      · subst hx2
        go_enter Tryd.func76, Tryd.ntmps76
        go_wp2_with fail
        go_ret
        exact ⟨by rw [HL.out]; rfl, rfl⟩
      · rw [decide_eq_false hx2] at HL
        have hx3 : (x == 255) = false := beq_eq_false_iff_ne.2 hx2
        by_cases hx0 : x = 0
        · subst hx0
          go_enter Tryd.func76, Tryd.ntmps76
          go_wp2_with fail
          go_ret
          exact ⟨by rw [HL.out]; rfl, rfl⟩
        · have hx1 : (x == 0) = false := beq_eq_false_iff_ne.2 hx0
          go_enter Tryd.func76, Tryd.ntmps76
          go_wp2_with fail
          go_ret
          exact ⟨by rw [HL.out]; rfl, rfl⟩

def isText (l : List Int) : Bool := l.all fun c => decide (32 ≤ c) && decide (c ≤ 126)
theorem mayB_text (l : List Int) : Dm.mayB 12 l = isText l := rfl
theorem isText_drop {l : List Int} {k : Nat} (hk : k < l.length) : isText (l.drop k) = ((decide (32 ≤ l[k]?.getD 0) && decide (l[k]?.getD 0 ≤ 126)) && isText (l.drop (k + 1))) := by
  rw [List.drop_eq_getElem_cons hk, List.getElem?_eq_getElem hk]; rfl
set_option maxHeartbeats 1000000 in
theorem rText_any (v : Value) (l : List Int) (w : World) (h : Row .u8 w v l) :
    Calls Tryd.prog 77 #[v] w fun e w' => e = .returned (.bool (isText l)) ∧ w = w' := by
  have hm1 : l.length ≤ maxLen := by obtain ⟨_, _, _, q1, q2, _⟩ := h; omega
  unfold maxLen at hm1
  obtain ⟨a, c, rfl⟩ := h.shape l.length rfl
  obtain ⟨n, hn⟩ : ∃ n, l.length = n := ⟨_, rfl⟩
  rw [hn] at hm1 h ⊢
  have HR := Lib.hid h; have HN := Lib.hid hn
  clear h hn
  go_enter Tryd.func77, Tryd.ntmps77
  go_wp2_with fail
  go_loopw [3] (fun i wr => ∃ k : Nat, i = .int .i64 k ∧ k ≤ n ∧ isText l = isText (l.drop k) ∧ w = wr) (fun i _ => n - (intOf i).toNat)
  case atStart => exact ⟨0, rfl, Nat.zero_le _, rfl, rfl⟩
  case round =>
    obtain ⟨k, rfl, hk, heq, rfl⟩ := hrel
    have k0 : (0 : Int) ≤ (k : Int) := by omega
    by_cases hlt : k < n
    · have k1 : (k : Int) < (n : Int) := by omega
      have e1 : IntKind.i64.wrap ((k : Int) + 1) = (k : Int) + 1 := IntWalk.i64_in _ (by omega)
      have hst := isText_drop (l := l) (k := k) (by rw [HN.out]; exact hlt)
      obtain ⟨b, off, rfl, hlb, cx⟩ := HR.out.cellAt k (by rw [HN.out]; exact hlt)
      obtain ⟨x, hx⟩ : ∃ x, l[k]?.getD 0 = x := ⟨_, rfl⟩
      rw [hx] at hst cx
      rw [hst] at heq
      clear hst hx
      by_cases h1 : 32 ≤ x
      · have h1' : ¬ x < 32 := by omega
        by_cases h2 : x ≤ 126
        · have h2' : ¬ 126 < x := by omega
          rw [decide_eq_true h1, decide_eq_true h2] at heq
          have HEq := Lib.hid heq
          clear heq
          go_wp2_with fail
          go_roundw
          case rel => exact ⟨k + 1, by go_num, by omega, HEq.out, trivial⟩
          case measure => simp [intOf]; omega
        · have h2' : 126 < x := by omega
          rw [decide_eq_false h2] at heq
          have HEq := Lib.hid heq
          clear heq
          go_wp2_with fail
          go_ret
          exact ⟨by rw [HEq.out]; simp, rfl⟩
      · have h1' : x < 32 := by omega
        rw [decide_eq_false h1] at heq
        have HEq := Lib.hid heq
        clear heq
        go_wp2_with fail
        go_ret
        exact ⟨by rw [HEq.out]; simp, rfl⟩
    · obtain rfl : k = n := by omega
      rw [List.drop_eq_nil_of_le (by rw [HN.out]; exact Nat.le_refl _)] at heq
      have HEq := Lib.hid heq
      clear heq
      go_wp2_with fail
      go_ret
      exact ⟨by rw [HEq.out]; rfl, rfl⟩

/-- What is asked of a call of Deep. -/
def DeepOn (x : Dm.It) : Prop := ∀ (w : World) (vb vl : Value), ItP w vb vl x → Dm.wt x ≤ 2000000 →
  Calls Tryd.prog 23 #[.agg #[.int .i64 x.tag, vb, vl]] w fun e w' => e = .returned (.int .i64 (Dm.deep x)) ∧ Below w.heap.size w w'
mutual
theorem deep_wt : ∀ x : Dm.It, Dm.deep x ≤ Dm.wt x
  | .mk t b l => by
    unfold Dm.deep Dm.wt
    have := deeps_wts l
    omega
theorem deeps_wts : ∀ l : List Dm.It, Dm.deeps l ≤ Dm.wts l
  | [] => by simp [Dm.deeps]
  | x :: l => by
    unfold Dm.deeps Dm.wts
    have := deep_wt x
    have := deeps_wts l
    omega
end
theorem deep_eq (x : Dm.It) : Dm.deep x = Dm.deeps x.l + 1 := by cases x; rw [Dm.deep]; rfl
theorem deeps_drop {l : List Dm.It} {k : Nat} (hk : k < l.length) : Dm.deeps (l.drop k) = max (Dm.deep (l[k]?.getD Dm.no)) (Dm.deeps (l.drop (k + 1))) := by
  rw [List.drop_eq_getElem_cons hk, List.getElem?_eq_getElem hk, Dm.deeps]; rfl
theorem forms_drop {l : List Dm.It} {k : Nat} (hk : k < l.length) : Dm.forms (l.drop k) = (Dm.form (l[k]?.getD Dm.no) && Dm.forms (l.drop (k + 1))) := by
  rw [List.drop_eq_getElem_cons hk, List.getElem?_eq_getElem hk, Dm.forms]; rfl

set_option maxRecDepth 100000 in
set_option maxHeartbeats 2000000 in
theorem deep_of (x : Dm.It) (hP : ∀ y ∈ x.l, DeepOn y) : DeepOn x := by
  intro w vb vl hp hwt
  obtain ⟨ab, cb, rfl⟩ := hp.2.1.shape x.b.length rfl
  obtain ⟨al, cl, rfl⟩ := hp.2.2.shape
  have hwe := Dm.wt_eq x
  have hlen := Dm.wts_len x.l
  have hdw := deeps_wts x.l
  rw [deep_eq]
  have q0 := Trip.new w 25 (.int .i64 x.tag) (.slice ab x.b.length cb) (.slice al x.l.length cl)
  have hb0 := (Below.refl w.heap.size w).alloc (Nat.le_refl _) (.cells #[.int .i64 x.tag, .slice ab x.b.length cb, .slice al x.l.length cl] 25)
  obtain ⟨T, hT⟩ : ∃ T, x.tag = T := ⟨_, rfl⟩
  obtain ⟨nb, hnb⟩ : ∃ n, x.b.length = n := ⟨_, rfl⟩
  obtain ⟨nl, hnl⟩ : ∃ n, x.l.length = n := ⟨_, rfl⟩
  have hq := hp.2.2
  rw [hT, hnb, hnl] at q0 hb0
  rw [hnl] at hlen hq
  rw [hT, hnb, hnl]
  have lnl : nl ≤ 2000000 := by omega
  have hdl : Dm.deeps x.l ≤ 2000000 := by omega
  obtain ⟨D, hD⟩ : ∃ D, Dm.deeps x.l = D := ⟨_, rfl⟩
  rw [hD] at hdl ⊢
  have HQ := Lib.hid hq; have HP := Lib.hid hP; have HNL := Lib.hid hnl; have HD := Lib.hid hD; have HW := Lib.hid (show Dm.wts x.l ≤ 2000000 by omega)
  clear hT hnb hq hP hp hwe hwt hlen hnl hD hdw
  go_enter Tryd.func23, Tryd.ntmps23
  go_wp2_with fail
  go_loopw [3, 4] (fun n i wr => ∃ m k : Nat, n = .int .i64 m ∧ i = .int .i64 k ∧ k ≤ nl ∧ D = max m (Dm.deeps (x.l.drop k)) ∧ Trip wr w.heap.size 25 (.int .i64 T) (.slice ab nb cb) (.slice al nl cl) ∧ Below w.heap.size w wr) (fun _ i _ => nl - (intOf i).toNat)
  case atStart => exact ⟨0, 0, rfl, rfl, Nat.zero_le _, by rw [List.drop_zero, HD.out]; omega, q0, hb0⟩
  case round =>
    obtain ⟨m, k, rfl, rfl, hk, heq, hd, hb⟩ := hrel
    have k0 : (0 : Int) ≤ (k : Int) := by omega
    have c0 := hd.cell0; have c1 := hd.cell1; have c2 := hd.cell2
    have HDd := Lib.hid hd
    clear hd q0 hb0
    by_cases hlt : k < nl
    · have k1 : (k : Int) < (nl : Int) := by omega
      have e1 : IntKind.i64.wrap ((k : Int) + 1) = (k : Int) + 1 := IntWalk.i64_in _ (by omega)
      have hltl : k < x.l.length := by rw [HNL.out]; exact hlt
      have hdr := deeps_drop hltl
      obtain ⟨b, off, ab2, cb2, al2, cl2, rfl, hbl, x0, x1, x2, hpy⟩ := HQ.out.at_ k hltl
      have x0 := (hb.cell (p := ⟨b, _, none⟩) hbl).trans x0
      have x1 := (hb.cell (p := ⟨b, _, none⟩) hbl).trans x1
      have x2 := (hb.cell (p := ⟨b, _, none⟩) hbl).trans x2
      have hmem : x.l[k]?.getD Dm.no ∈ x.l := by rw [List.getElem?_eq_getElem hltl]; exact List.getElem_mem hltl
      obtain ⟨y, hy⟩ : ∃ y, x.l[k]?.getD Dm.no = y := ⟨_, rfl⟩
      rw [hy] at x0 x1 x2 hpy hdr hmem
      have hC := HP.out y hmem wr _ _ (hpy.below hb) (by have := Dm.wts_mem hmem; have := HW.out; omega)
      obtain ⟨W, hW⟩ : ∃ W, Dm.deep y = W := ⟨_, rfl⟩
      rw [hW] at hC hdr
      rw [hdr] at heq
      have heq2 : D = max (max m W) (Dm.deeps (x.l.drop (k + 1))) := by rw [heq]; omega
      have emx : max (m : Int) (W : Int) = ((max m W : Nat) : Int) := by omega
      have HEq := Lib.hid heq2; have HBb := Lib.hid hb
      clear heq heq2 hW hy hmem hpy hdr hb
      go_wp2_with fail
      refine hC.mono ?_; rintro e w3 ⟨rfl, hb3⟩
      have hB3 := HBb.out.trans (hb3.mono HBb.out.size)
      have q3 := trip_stp HDd.out hb3
      clear hC hb3 x0 x1 x2 c0 c1 c2
      go_wp2_with fail
      go_roundw
      case rel => exact ⟨max m W, k + 1, by go_num, by go_num, by omega, HEq.out, q3, hB3⟩
      case measure => simp [intOf]; omega
    · obtain rfl : k = nl := by omega
      have hdn : x.l.drop k = [] := List.drop_eq_nil_of_le (by rw [HNL.out]; exact Nat.le_refl _)
      rw [hdn] at heq
      obtain rfl : D = m := by rw [heq]; simp [Dm.deeps]
      have e2 : IntKind.i64.wrap ((D : Int) + 1) = (D : Int) + 1 := IntWalk.i64_in _ (by omega)
      clear heq hdn
      go_wp2_with fail
      go_ret
      exact ⟨rfl, hb⟩
theorem deep_le : ∀ (n : Nat) (x : Dm.It), Dm.wt x ≤ n → DeepOn x
  | 0, x, h => by have := Dm.wt_eq x; omega
  | n + 1, x, h => deep_of x fun y hy => deep_le n y (by have := Dm.wt_eq x; have := Dm.wts_mem hy; omega)
theorem Deep_any (x : Dm.It) : DeepOn x := deep_le _ x (Nat.le_refl _)
end Go.Proofs.YtpmiihmhfagfoaaDoor
