/-
  The walk over greatseallaw07.few.
-/
import Derived.Test.YtpmiihmhfagfoaaDoorEw
namespace Go.Proofs.YtpmiihmhfagfoaaDoor
open Go.RowKit

def smallB (l : List Dm.It) : Bool := l.all fun x => decide (Dm.wt x ≤ 9000)
def fewB (l : List Dm.It) : Bool := smallB (l.take 20) && decide (l.length ≤ 12)
theorem smallB_cons (x : Dm.It) (l : List Dm.It) : smallB (x :: l) = (decide (Dm.wt x ≤ 9000) && smallB l) := rfl
theorem small_step {l : List Dm.It} {k : Nat} (hk : k < l.length) (h20 : k < 20) : smallB ((l.drop k).take (20 - k)) = (decide (Dm.wt (l[k]?.getD Dm.no) ≤ 9000) && smallB ((l.drop (k + 1)).take (20 - (k + 1)))) := by
  rw [List.drop_eq_getElem_cons hk, List.getElem?_eq_getElem hk, show 20 - k = (20 - (k + 1)) + 1 by omega, List.take_succ_cons, smallB_cons]; rfl
theorem fewB_true {l : List Dm.It} (h : fewB l = true) : l.length ≤ 12 ∧ ∀ x ∈ l, Dm.wt x ≤ 9000 := by
  unfold fewB at h
  simp only [Bool.and_eq_true, decide_eq_true_eq] at h
  refine ⟨h.2, fun x hx => ?_⟩
  have h1 := h.1
  rw [List.take_of_length_le (by omega)] at h1
  simpa using List.all_eq_true.1 h1 x hx

set_option maxRecDepth 100000 in
set_option maxHeartbeats 2000000 in
theorem few_any (v : Value) (l : List Dm.It) (w : World) (h : ItsV w v l) (hw : Dm.wts l ≤ 2000000) :
    Calls Tryd.prog 22 #[v] w fun e w' => e = .returned (.bool (fewB l)) ∧ Below w.heap.size w w' := by
  have hln := Dm.wts_len l
  obtain ⟨a, c, rfl⟩ := h.shape
  obtain ⟨n, hn⟩ : ∃ n, l.length = n := ⟨_, rfl⟩
  have hfb : fewB l = (smallB (l.take 20) && decide (l.length ≤ 12)) := rfl
  rw [hn] at h hln hfb ⊢
  obtain ⟨R, hR⟩ : ∃ R, fewB l = R := ⟨_, rfl⟩
  rw [hR] at hfb ⊢
  have HI := Lib.hid h; have HN := Lib.hid hn; have HW := Lib.hid hw; have HF := Lib.hid hfb
  clear h hn hw hfb hR
  go_enter Tryd.func22, Tryd.ntmps22
  go_wp2_with fail
  go_loopw [3] (fun i wr => ∃ k : Nat, i = .int .i64 k ∧ k ≤ n ∧ k ≤ 20 ∧ smallB (l.take 20) = smallB ((l.drop k).take (20 - k)) ∧ Below w.heap.size w wr) (fun i _ => 30 - (intOf i).toNat)
  case atStart => exact ⟨0, rfl, Nat.zero_le _, Nat.zero_le _, rfl, Below.refl _ _⟩
  case round =>
    obtain ⟨k, rfl, hk, hk20, heq, hb⟩ := hrel
    have k0 : (0 : Int) ≤ (k : Int) := by omega
    have tail : smallB (l.take 20) = true → R = decide (n ≤ 12) := fun h => by rw [HF.out, h]; rfl
    have hd12 : decide ((n : Int) ≤ 12) = decide (n ≤ 12) := decide_eq_decide.2 (by omega)
    have TAIL := Lib.hid tail; have HD := Lib.hid hd12
    clear tail hd12
    by_cases hlt : k < n
    · have k1 : (k : Int) < (n : Int) := by omega
      by_cases h20 : k < 20
      · have k2 : (k : Int) < 20 := by omega
        have e1 : IntKind.i64.wrap ((k : Int) + 1) = (k : Int) + 1 := IntWalk.i64_in _ (by omega)
        have hkl : k < l.length := by rw [HN.out]; exact hlt
        have hst := small_step hkl h20
        obtain ⟨b, off, ab, cb, al, cl, rfl, hbl, x0, x1, x2, hp⟩ := HI.out.at_ k hkl
        have x0 := (hb.cell (p := ⟨b, _, none⟩) hbl).trans x0
        have x1 := (hb.cell (p := ⟨b, _, none⟩) hbl).trans x1
        have x2 := (hb.cell (p := ⟨b, _, none⟩) hbl).trans x2
        have hmem : l[k]?.getD Dm.no ∈ l := by rw [List.getElem?_eq_getElem hkl]; exact List.getElem_mem _
        obtain ⟨x, hx⟩ : ∃ y, l[k]?.getD Dm.no = y := ⟨_, rfl⟩
        rw [hx] at x0 x1 x2 hp hst hmem
        have hC := Few_any x _ _ wr (hp.below hb) (by have := Dm.wts_mem hmem; have := HW.out; omega)
        obtain ⟨F, hF⟩ : ∃ F, decide (Dm.wt x ≤ 9000) = F := ⟨_, rfl⟩
        rw [hF] at hC hst
        rw [hst] at heq
        have HEq := Lib.hid heq; have HB := Lib.hid hb
        clear hx hmem hp heq hst hb hF
        go_wp2_with fail
        refine hC.mono ?_; rintro e w3 ⟨rfl, hb3⟩
        have hB3 := HB.out.trans (hb3.mono HB.out.size)
        clear hC hb3 x0 x1 x2
        cases F with
        | false =>
          go_wp2_with fail
          go_ret
          exact ⟨by rw [HF.out, HEq.out]; rfl, hB3⟩
        | true =>
          have heq2 : smallB (l.take 20) = smallB ((l.drop (k + 1)).take (20 - (k + 1))) := by rw [HEq.out]; rfl
          have HEq2 := Lib.hid heq2
          clear heq2
          go_wp2_with fail
          go_roundw
          case rel => exact ⟨k + 1, by go_num, by omega, by omega, HEq2.out, hB3⟩
          case measure => simp [intOf]; omega
      · have hk3 : ¬ (k : Int) < 20 := by omega
        have hR : R = decide (n ≤ 12) := TAIL.out (by rw [heq, show 20 - k = 0 by omega]; rfl)
        have HR := Lib.hid hR
        clear heq hR
        go_wp2_with fail
        go_ret
        exact ⟨by rw [HR.out, ← HD.out]; rfl, hb⟩
    · have hk3 : ¬ (k : Int) < (n : Int) := by omega
      have hR : R = decide (n ≤ 12) := TAIL.out (by rw [heq, List.drop_eq_nil_of_le (by rw [HN.out]; omega), List.take_nil]; rfl)
      have HR := Lib.hid hR
      clear heq hR
      go_wp2_with fail
      go_ret
      exact ⟨by rw [HR.out, ← HD.out]; rfl, hb⟩
end Go.Proofs.YtpmiihmhfagfoaaDoor
