/-
  The walk over greatsealref01.Same: are two lists of numbers the same?
-/
import Derived.Test.YtnichjocllfocaaFw
import Derived.Test.YtnichjocllfocaaMe
import Derived.Deep.QuietTactic
import Derived.BigQuiet
namespace Go.Proofs.Ytnichjocllfocaa
open Go.RowKit

theorem same_step (l1 l2 : List Int) (k : Nat) (h : l1.length = l2.length) (hk : k < l1.length) (ht : l1.take k = l2.take k) (e : l1[k]?.getD 0 = l2[k]?.getD 0) : l1.take (k + 1) = l2.take (k + 1) := by
  rw [List.take_add_one, List.take_add_one, ht]
  congr 1
  rw [List.getElem?_eq_getElem hk, List.getElem?_eq_getElem (by omega)] at e ⊢
  simp at e; simp [e]

set_option maxHeartbeats 800000 in
theorem RSame_any (v1 v2 : Value) (l1 l2 : List Int) (w : World) (h1 : Row .u64 w v1 l1) (h2 : Row .u64 w v2 l2) :
    Calls Try.prog 23 #[v1, v2] w fun e w' => e = .returned (.bool (decide (l1 = l2))) ∧ Below w.heap.size w w' := by
  obtain ⟨a1, c1, rfl, hl1, hc1, -, hw1, hr1⟩ := h1
  obtain ⟨a2, c2, rfl, hl2, hc2, -, hw2, hr2⟩ := h2
  unfold maxLen at hc1 hc2
  by_cases hlen : l1.length = l2.length
  · by_cases hne : l1 = []
    · have hne2 : l2 = [] := by rw [hne] at hlen; exact List.length_eq_zero_iff.1 hlen.symm
      subst hne hne2
      go_enter Try.func23, Try.ntmps23
      go_wp2
      go_loop [5] (fun i => i = .int .i64 0) (fun _ => 0)
      case atStart => rfl
      case round =>
        subst hrel
        go_wp2
        go_ret
        exact ⟨rfl, Below.refl _ _⟩
    · obtain ⟨b1, o1, rfl, hb1, hx1⟩ := hr1 hne
      have hne2 : l2 ≠ [] := by rintro rfl; exact hne (List.length_eq_zero_iff.1 hlen)
      obtain ⟨b2, o2, rfl, hb2, hx2⟩ := hr2 hne2
      have hn : ((l1.length : Int) != (l2.length : Int)) = false := by simp; omega
      have Hl := Lib.hid hlen
      have hle : l1.length ≤ l2.length := by omega
      have H1 := Lib.hid hx1
      have H2 := Lib.hid hx2
      clear hlen hr1 hr2 hw1 hw2 hx1 hx2 hne hne2
      go_enter Try.func23, Try.ntmps23
      go_wp2_with fail
      go_loopw [5] (fun i wr => ∃ k : Nat, k ≤ l1.length ∧ i = .int .i64 k ∧ Below w.heap.size w wr ∧ Hid (l1.take k = l2.take k)) (fun i _ => l1.length - (intOf i).toNat)
      case atStart => exact ⟨0, Nat.zero_le _, rfl, Below.refl _ _, Lib.hid (by simp)⟩
      case round =>
        obtain ⟨k, hk, rfl, hbw, HT⟩ := hrel
        by_cases hlt : k < l1.length
        · have g1 := (hbw.cell (p := ⟨b1, o1 + k, none⟩) hb1).trans (H1.out k hlt)
          have g2 := (hbw.cell (p := ⟨b2, o2 + k, none⟩) hb2).trans (H2.out k (by omega))
          have hst := same_step l1 l2 k Hl.out hlt HT.out
          have hdf : l1[k]?.getD 0 ≠ l2[k]?.getD 0 → l1 ≠ l2 := by rintro h rfl; exact h rfl
          obtain ⟨x1, e1⟩ : ∃ x, l1[k]?.getD 0 = x := ⟨_, rfl⟩
          obtain ⟨x2, e2⟩ : ∃ x, l2[k]?.getD 0 = x := ⟨_, rfl⟩
          rw [e1] at g1; rw [e2] at g2; rw [e1, e2] at hst hdf
          clear e1 e2
          by_cases hx : x1 = x2
          · have hb : (x1 != x2) = false := by simpa using hx
            have Hs := Lib.hid (hst hx)
            clear hst hdf hx
            go_wp2_with fail
            go_quiet (fail)
            go_wp2_with fail
            go_roundw
            case rel => exact ⟨k + 1, by omega, by go_num, below_drewN hbw _, Hs⟩
            case measure => simp [intOf]; omega
          · have hb : (x1 != x2) = true := by simpa using hx
            have Hd := Lib.hid (hdf hx)
            clear hst hdf hx
            go_wp2_with fail
            go_quiet (fail)
            go_wp2_with fail
            go_ret
            exact ⟨ret_bool (by simp [Hd.out]), below_drewN hbw _⟩
        · go_wp2_with fail
          go_ret
          obtain rfl : k = l1.length := by omega
          have ht := HT.out
          rw [List.take_length, Hl.out, List.take_length] at ht
          exact ⟨ret_bool (by simp [ht]), hbw⟩
  · have hn : ((l1.length : Int) != (l2.length : Int)) = true := by simp; omega
    go_enter Try.func23, Try.ntmps23
    go_wp2
    go_ret
    exact ⟨ret_bool (by simp; rintro rfl; exact hlen rfl), Below.refl _ _⟩
end Go.Proofs.Ytnichjocllfocaa
