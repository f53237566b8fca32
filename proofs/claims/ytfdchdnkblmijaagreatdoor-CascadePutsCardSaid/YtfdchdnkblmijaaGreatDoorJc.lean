/-
  The walk over greatsealref10.Few.
-/
import Derived.Test.YtfdchdnkblmijaaGreatDoorYe
namespace Go.Proofs.YtfdchdnkblmijaaGreatDoor
open Go.RowKit

def FewC (ls : List Sm.Sv) : Prop := ls.length ≤ 20 ∧ Cm.Few 300 ls
instance (ls : List Sm.Sv) : Decidable (FewC ls) := by unfold FewC; infer_instance

set_option maxRecDepth 100000 in
set_option maxHeartbeats 2000000 in
theorem RFew_any (day : Int) (vl : Value) (ls : List Sm.Sv) (w : World) (h : Svs w vl ls) :
    Calls Tryz.prog 5 #[.agg #[.int .i64 day, vl]] w fun e w' => e = .returned (.bool (decide (FewC ls))) ∧ Below w.heap.size w w' := by
  have hmax : ls.length ≤ 9223372036854775807 := by obtain ⟨_, _, _, q1, q2, _⟩ := h; unfold maxLen at q2; omega
  obtain ⟨a, c, rfl⟩ := h.shape
  obtain ⟨n, hn⟩ : ∃ n, ls.length = n := ⟨_, rfl⟩
  obtain ⟨Z, hZ⟩ : ∃ Z, decide (FewC ls) = Z := ⟨_, rfl⟩
  rw [hn] at h hmax ⊢
  rw [hZ]
  obtain ⟨B, hB⟩ : ∃ B, w.heap.size = B := ⟨_, rfl⟩
  have q0 := Duo.new w 24 (.int .i64 day) (.slice a n c)
  have hb0 := (Below.refl w.heap.size w).alloc (Nat.le_refl _) (.cells #[.int .i64 day, .slice a n c] 24)
  have s0 := h.alloc (.cells #[.int .i64 day, .slice a n c] 24)
  obtain ⟨W, hW⟩ : ∃ W, w.alloc (.cells #[.int .i64 day, .slice a n c] 24) = W := ⟨_, rfl⟩
  rw [hW] at q0 hb0 s0
  rw [hB] at q0
  have x0 := q0.cell0; have x1 := q0.cell1; have xl := q0.lt
  have HW := Lib.hid hW; have HB := Lib.hid hB; have HB0 := Lib.hid hb0; have S0 := Lib.hid s0; have HN := Lib.hid hn; have HZ := Lib.hid hZ
  clear hW hB hb0 s0 hn hZ h q0
  go_enter Tryz.func5, Tryz.ntmps5
  go_wp2_with fail
  rw [HW.out, HB.out]
  (try go_wp2_with fail)
  go_loop [3] (fun i => ∃ k : Nat, i = .int .i64 k ∧ k ≤ n ∧ k ≤ 20 ∧ ∀ j, j < k → (ls[j]?.getD Cm.nil).b.length ≤ 300) (fun i => 20 - (intOf i).toNat)
  case atStart => exact ⟨0, rfl, Nat.zero_le _, by omega, fun j hj => by omega⟩
  case round =>
    obtain ⟨k, rfl, hk, hk20, hall⟩ := hrel
    have HAll := Lib.hid hall
    have k0 : (0 : Int) ≤ (k : Int) := by omega
    have e1 : IntKind.i64.wrap ((k : Int) + 1) = (k : Int) + 1 := IntWalk.i64_in _ (by omega)
    clear hall
    by_cases hlt : k < n
    · have k1 : (k : Int) < (n : Int) := by omega
      by_cases h20 : k < 20
      · have k2 : (k : Int) < 20 := by omega
        obtain ⟨_, _, e', _, _, _, h5⟩ := S0.out
        rw [HN.out] at e'
        cases e'
        obtain ⟨b, o, rfl, hbl, hc⟩ := h5 (by rintro rfl; have := HN.out; simp at this; omega)
        obtain ⟨vb, rb, t0, t1, t2, t3⟩ := hc k (by rw [HN.out]; exact hlt)
        obtain ⟨m, hm⟩ : ∃ m, (ls[k]?.getD Cm.nil).b.length = m := ⟨_, rfl⟩
        obtain ⟨av, cv, rfl⟩ := rb.shape m hm
        have HM := Lib.hid hm
        clear h5 hc rb t0 t1 t2 hm
        by_cases hm3 : 300 < m
        · have m3 : (300 : Int) < (m : Int) := by omega
          have hz : Z = false := by
            rw [← HZ.out]
            refine decide_eq_false fun h => ?_
            have hlt' : k < ls.length := by rw [HN.out]; exact hlt
            have := h.2 _ (List.getElem_mem hlt')
            have hm := HM.out
            rw [List.getElem?_eq_getElem hlt'] at hm
            simp at hm; omega
          have HZ2 := Lib.hid hz
          clear hz
          go_wp2_with fail
          go_ret
          rw [HZ2.out]
          exact ⟨rfl, HB0.out⟩
        · have m3 : ¬ (300 : Int) < (m : Int) := by omega
          go_wp2_with fail
          go_round
          case rel =>
            refine ⟨k + 1, by go_num, by omega, by omega, fun j hj => ?_⟩
            rcases Nat.lt_or_ge j k with h | h
            · exact HAll.out j h
            · obtain rfl : j = k := by omega
              rw [HM.out]; omega
          case measure => simp [intOf]; omega
      · obtain rfl : k = 20 := by omega
        have n20 : ¬ (n : Int) ≤ 20 := by omega
        have hz : Z = false := by
          rw [← HZ.out]
          refine decide_eq_false fun h => ?_
          have := h.1; have := HN.out; omega
        have HZ2 := Lib.hid hz
        clear hz
        go_wp2_with fail
        go_ret
        rw [HZ2.out]
        exact ⟨rfl, HB0.out⟩
    · obtain rfl : k = n := by omega
      have n20 : (k : Int) ≤ 20 := by omega
      have hz : Z = true := by
        rw [← HZ.out]
        refine decide_eq_true ⟨by rw [HN.out]; exact hk20, fun s hs => ?_⟩
        obtain ⟨j, hj, rfl⟩ := List.getElem_of_mem hs
        have := HAll.out j (by rw [← HN.out]; exact hj)
        rw [List.getElem?_eq_getElem hj] at this
        exact this
      have HZ2 := Lib.hid hz
      clear hz
      go_wp2_with fail
      go_ret
      rw [HZ2.out]
      exact ⟨rfl, HB0.out⟩
end Go.Proofs.YtfdchdnkblmijaaGreatDoor
