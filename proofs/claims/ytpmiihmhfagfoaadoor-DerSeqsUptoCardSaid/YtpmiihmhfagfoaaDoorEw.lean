/-
  Walks over greatsealref07.Weigh and Few.
-/
import Derived.Test.YtpmiihmhfagfoaaDoorDd
namespace Go.Proofs.YtpmiihmhfagfoaaDoor
open Go.RowKit

mutual
def weigh : Dm.It → Nat
  | .mk _ b l => weighs (2 + b.length) l
def weighs : Nat → List Dm.It → Nat
  | n, [] => n
  | n, x :: l => if n ≤ 9000 then weighs (n + weigh x) l else n
end
theorem weighs_cons (n : Nat) (x : Dm.It) (l : List Dm.It) : weighs n (x :: l) = if n ≤ 9000 then weighs (n + weigh x) l else n := by rw [weighs]
theorem weighs_nil (n : Nat) : weighs n [] = n := by rw [weighs]
theorem weigh_eq (x : Dm.It) : weigh x = weighs (2 + x.b.length) x.l := by cases x; rw [weigh]; rfl
mutual
theorem weigh_wt : ∀ x : Dm.It, (Dm.wt x ≤ 9000 → weigh x = Dm.wt x) ∧ (9000 < Dm.wt x → 9000 < weigh x) ∧ weigh x ≤ Dm.wt x
  | .mk t b l => by
    have := weighs_wt l (2 + b.length)
    unfold weigh Dm.wt
    exact this
theorem weighs_wt : ∀ (l : List Dm.It) (n : Nat), (n + Dm.wts l ≤ 9000 → weighs n l = n + Dm.wts l) ∧ (9000 < n + Dm.wts l → 9000 < weighs n l) ∧ weighs n l ≤ n + Dm.wts l
  | [], n => by simp [weighs, Dm.wts]
  | x :: l, n => by
    unfold weighs Dm.wts
    have h1 := weigh_wt x
    have h2 := weighs_wt l (n + weigh x)
    by_cases hn : n ≤ 9000
    · rw [if_pos hn]
      by_cases hx : Dm.wt x ≤ 9000
      · have := h1.1 hx
        omega
      · have := h1.2.1 (by omega)
        omega
    · rw [if_neg hn]; omega
end
theorem few_iff (x : Dm.It) : decide (weigh x ≤ 9000) = decide (Dm.wt x ≤ 9000) := decide_eq_decide.2 (by have := weigh_wt x; omega)
/-- What is asked of a call of Weigh. -/
def WeighOn (x : Dm.It) : Prop := ∀ (w : World) (vb vl : Value), ItP w vb vl x → Dm.wt x ≤ 2000000 →
  Calls Tryd.prog 42 #[.agg #[.int .i64 x.tag, vb, vl], .int .i64 9000] w fun e w' => e = .returned (.int .i64 (weigh x)) ∧ Below w.heap.size w w'

set_option maxRecDepth 100000 in
set_option maxHeartbeats 2000000 in
theorem weigh_of (x : Dm.It) (hP : ∀ y ∈ x.l, WeighOn y) : WeighOn x := by
  intro w vb vl hp hwt
  obtain ⟨ab, cb, rfl⟩ := hp.2.1.shape x.b.length rfl
  obtain ⟨al, cl, rfl⟩ := hp.2.2.shape
  have hwe := Dm.wt_eq x
  have hlen := Dm.wts_len x.l
  rw [weigh_eq]
  have q0 := Trip.new w 25 (.int .i64 x.tag) (.slice ab x.b.length cb) (.slice al x.l.length cl)
  have hb0 := (Below.refl w.heap.size w).alloc (Nat.le_refl _) (.cells #[.int .i64 x.tag, .slice ab x.b.length cb, .slice al x.l.length cl] 25)
  obtain ⟨T, hT⟩ : ∃ T, x.tag = T := ⟨_, rfl⟩
  obtain ⟨nb, hnb⟩ : ∃ n, x.b.length = n := ⟨_, rfl⟩
  obtain ⟨nl, hnl⟩ : ∃ n, x.l.length = n := ⟨_, rfl⟩
  have hq := hp.2.2
  rw [hT, hnb, hnl] at q0 hb0
  rw [hnb] at hwe
  rw [hnl] at hlen hq
  rw [hT, hnb, hnl]
  have hw2 : 2 + nb + Dm.wts x.l ≤ 2000000 := by omega
  have HQ := Lib.hid hq; have HP := Lib.hid hP; have HNL := Lib.hid hnl; have HW2 := Lib.hid hw2
  have lnb : nb ≤ 2000000 := by omega
  have lnl : nl ≤ 2000000 := by omega
  have ea : IntKind.i64.wrap (2 + (nb : Int)) = 2 + (nb : Int) := IntWalk.i64_in _ (by omega)
  clear hT hnb hq hP hp hwe hwt hlen hw2 hnl
  go_enter Tryd.func42, Tryd.ntmps42
  go_wp2_with fail
  go_loopw [5, 6] (fun n i wr => ∃ m k : Nat, n = .int .i64 m ∧ i = .int .i64 k ∧ k ≤ nl ∧ weighs (2 + nb) x.l = weighs m (x.l.drop k) ∧ m + Dm.wts (x.l.drop k) ≤ 2000000 ∧ Trip wr w.heap.size 25 (.int .i64 T) (.slice ab nb cb) (.slice al nl cl) ∧ Below w.heap.size w wr) (fun _ i _ => nl - (intOf i).toNat)
  case atStart => exact ⟨2 + nb, 0, by go_num, rfl, Nat.zero_le _, rfl, HW2.out, q0, hb0⟩
  case round =>
    obtain ⟨m, k, rfl, rfl, hk, heq, hm, hd, hb⟩ := hrel
    have k0 : (0 : Int) ≤ (k : Int) := by omega
    have c0 := hd.cell0; have c1 := hd.cell1; have c2 := hd.cell2
    have HD := Lib.hid hd
    clear hd q0 hb0
    by_cases hlt : k < nl
    · have k1 : (k : Int) < (nl : Int) := by omega
      have e1 : IntKind.i64.wrap ((k : Int) + 1) = (k : Int) + 1 := IntWalk.i64_in _ (by omega)
      have hltl : k < x.l.length := by rw [HNL.out]; exact hlt
      have hdr : x.l.drop k = (x.l[k]?.getD Dm.no) :: x.l.drop (k + 1) := by rw [List.drop_eq_getElem_cons hltl, List.getElem?_eq_getElem hltl]; rfl
      rw [hdr] at heq hm
      rw [weighs_cons] at heq
      unfold Dm.wts at hm
      by_cases hmm : m ≤ 9000
      · rw [if_pos hmm] at heq
        have hm1 : (m : Int) ≤ 9000 := by omega
        obtain ⟨b, off, ab2, cb2, al2, cl2, rfl, hbl, x0, x1, x2, hpy⟩ := HQ.out.at_ k hltl
        have x0 := (hb.cell (p := ⟨b, _, none⟩) hbl).trans x0
        have x1 := (hb.cell (p := ⟨b, _, none⟩) hbl).trans x1
        have x2 := (hb.cell (p := ⟨b, _, none⟩) hbl).trans x2
        have hmem : x.l[k]?.getD Dm.no ∈ x.l := by rw [List.getElem?_eq_getElem hltl]; exact List.getElem_mem hltl
        obtain ⟨y, hy⟩ : ∃ y, x.l[k]?.getD Dm.no = y := ⟨_, rfl⟩
        rw [hy] at x0 x1 x2 hpy heq hm hmem
        have hwy := (weigh_wt y).2.2
        have hC := HP.out y hmem wr _ _ (hpy.below hb) (by omega)
        obtain ⟨W, hW⟩ : ∃ W, weigh y = W := ⟨_, rfl⟩
        rw [hW] at hC hwy heq
        have e2 : IntKind.i64.wrap ((m : Int) + (W : Int)) = ((m + W : Nat) : Int) := (IntWalk.i64_in _ (by omega)).trans (by omega)
        have hm2 : m + W + Dm.wts (x.l.drop (k + 1)) ≤ 2000000 := by omega
        have HM2 := Lib.hid hm2; have HEq := Lib.hid heq; have HBb := Lib.hid hb
        clear hm heq hm2 hwy hW hy hmem hpy hdr hb
        go_wp2_with fail
        refine hC.mono ?_; rintro e w3 ⟨rfl, hb3⟩
        have hB3 := HBb.out.trans (hb3.mono HBb.out.size)
        have q3 := trip_stp HD.out hb3
        clear hC hb3 x0 x1 x2 c0 c1 c2
        go_wp2_with fail
        go_roundw
        case rel => exact ⟨m + W, k + 1, rfl, by go_num, by omega, HEq.out, HM2.out, q3, hB3⟩
        case measure => simp [intOf]; omega
      · rw [if_neg hmm] at heq
        have hm1 : ¬ (m : Int) ≤ 9000 := by omega
        have HEq := Lib.hid heq
        clear heq hm hdr
        go_wp2_with fail
        go_ret
        exact ⟨by rw [HEq.out]; rfl, hb⟩
    · obtain rfl : k = nl := by omega
      have hdn : x.l.drop k = [] := List.drop_eq_nil_of_le (by rw [HNL.out]; exact Nat.le_refl _)
      rw [hdn, weighs_nil] at heq
      have HEq := Lib.hid heq
      clear heq hdn hm
      go_wp2_with fail
      go_ret
      exact ⟨by rw [HEq.out]; rfl, hb⟩
theorem weigh_le : ∀ (n : Nat) (x : Dm.It), Dm.wt x ≤ n → WeighOn x
  | 0, x, h => by have := Dm.wt_eq x; omega
  | n + 1, x, h => weigh_of x fun y hy => weigh_le n y (by have := Dm.wt_eq x; have := Dm.wts_mem hy; omega)
theorem Weigh_any (x : Dm.It) : WeighOn x := weigh_le _ x (Nat.le_refl _)
theorem Few_any (x : Dm.It) (vb vl : Value) (w : World) (hp : ItP w vb vl x) (hwt : Dm.wt x ≤ 2000000) :
    Calls Tryd.prog 13 #[.agg #[.int .i64 x.tag, vb, vl]] w fun e w' => e = .returned (.bool (decide (Dm.wt x ≤ 9000))) ∧ Below w.heap.size w w' := by
  obtain ⟨ab, cb, rfl⟩ := hp.2.1.shape x.b.length rfl
  obtain ⟨al, cl, rfl⟩ := hp.2.2.shape
  have hb0 := (Below.refl w.heap.size w).alloc (Nat.le_refl _) (.cells #[.int .i64 x.tag, .slice ab x.b.length cb, .slice al x.l.length cl] 25)
  have hC := Weigh_any x _ _ _ (hp.alloc (.cells #[.int .i64 x.tag, .slice ab x.b.length cb, .slice al x.l.length cl] 25)) hwt
  have hf := few_iff x
  have hfi : decide ((weigh x : Int) ≤ 9000) = decide (weigh x ≤ 9000) := decide_eq_decide.2 (by omega)
  rw [hf] at hfi
  have HF := Lib.hid hfi; have HB := Lib.hid hb0
  clear hp hb0 hf hfi
  go_enter Tryd.func13, Tryd.ntmps13
  go_wp2_with fail
  refine hC.mono ?_; rintro e w1 ⟨rfl, hb⟩
  clear hC
  go_wp2_with fail
  go_ret
  exact ⟨by rw [← HF.out]; rfl, HB.out.trans (hb.mono HB.out.size)⟩
end Go.Proofs.YtpmiihmhfagfoaaDoor
