/-
  The walks over greatsealref20: Few, FewAll, Lists, Same.
-/
import Derived.Test.YtiijlakilogekaaWf
import Derived.RegionTactic
import Derived.BigRegion
namespace Go.Proofs.Ytiijlakilogekaa
open Go.RowKit

set_option maxHeartbeats 400000 in
theorem Few_any (v1 v2 : Value) (S O : List Int) (w : World) (h1 : Row .u8 w v1 S) (h2 : Row .u8 w v2 O) :
    Calls Try.prog 5 #[.agg #[v1, v2]] w fun e w' => e = .returned (.bool (decide (S.length ≤ 3000 ∧ O.length ≤ 3000))) ∧ Below w.heap.size w w' := by
  obtain ⟨a1, c1, rfl, -⟩ := h1
  obtain ⟨a2, c2, rfl, -⟩ := h2
  have ret : ∀ c d : Bool, c = d → Ending.returned (.bool c) = Ending.returned (.bool d) := fun c d h => by rw [h]
  by_cases g1 : S.length ≤ 3000
  all_goals
    go_enter Try.func5, Try.ntmps5
    go_wp2
    go_ret
    refine ⟨ret _ _ ?_, (Below.refl _ _).alloc (Nat.le_refl _) _⟩ <;> first | (rw [Bool.eq_iff_iff]; simp <;> omega) | rw [Bool.eq_iff_iff] | simp

set_option maxHeartbeats 1000000 in
theorem Same_yes (v1 v2 u1 u2 : Value) (S O S' O' : List Int) (w : World) (h1 : Row .u8 w v1 S) (h2 : Row .u8 w v2 O) (g1 : Row .u8 w u1 S') (g2 : Row .u8 w u2 O') (e1 : S = S') (e2 : O = O') :
    Calls Try.prog 10 #[.agg #[v1, v2], .agg #[u1, u2]] w fun e w' => e = .returned (.bool true) ∧ Below w.heap.size w w' := by
  subst e1 e2
  have k1 := ((h1.alloc (.cells #[v1, v2] 24)).alloc (.cells #[u1, u2] 24)).convert
  have k2 := ((h2.alloc (.cells #[v1, v2] 24)).alloc (.cells #[u1, u2] 24)).convert
  have k3 := ((g1.alloc (.cells #[v1, v2] 24)).alloc (.cells #[u1, u2] 24)).convert
  have k4 := ((g2.alloc (.cells #[v1, v2] 24)).alloc (.cells #[u1, u2] 24)).convert
  obtain ⟨a1, c1, rfl, -⟩ := h1
  obtain ⟨a2, c2, rfl, -⟩ := h2
  obtain ⟨a3, c3, rfl, -⟩ := g1
  obtain ⟨a4, c4, rfl, -⟩ := g2
  go_enter Try.func10, Try.ntmps10
  go_wp2
  go_ret
  exact ⟨ret_bool (by simp), ((Below.refl _ _).alloc (Nat.le_refl _) _).alloc (by simp) _⟩

set_option maxRecDepth 100000 in
set_option maxHeartbeats 1000000 in
theorem Lists_yes (v1 v2 : Value) (ls ms : List (List Int)) (w : World) (h1 : Rws .u8 w v1 ls) (h2 : Rws .u8 w v2 ms) (he : ls = ms) (hn : ls.length ≤ 1000000) :
    Calls Try.prog 16 #[v1, v2] w fun e w' => e = .returned (.bool true) ∧ Below w.heap.size w w' := by
  subst he
  obtain ⟨a1, c1, V1, rfl, hl1, hm1, -, hr1, hv1⟩ := h1
  obtain ⟨a2, c2, V2, rfl, hl2, hm2, -, hr2, hv2⟩ := h2
  have HR1 := Lib.hid hr1; have HR2 := Lib.hid hr2; have HV1 := Lib.hid hv1; have HV2 := Lib.hid hv2
  clear hr1 hr2 hv1 hv2
  unfold maxLen at hm1 hm2
  go_enter Try.func16, Try.ntmps16
  go_wp2_with fail
  go_loopw [5] (fun i wr => ∃ k : Nat, k ≤ ls.length ∧ i = .int .i64 k ∧ Below w.heap.size w wr) (fun i _ => ls.length - (intOf i).toNat)
  case atStart => exact ⟨0, Nat.zero_le _, rfl, Below.refl _ _⟩
  case round =>
    obtain ⟨k, hk, rfl, hB⟩ := hrel
    by_cases hlt : k < ls.length
    · obtain ⟨b1, o1, rfl, hb1, hc1⟩ := HR1.out (by rintro rfl; simp at hlt)
      obtain ⟨b2, o2, rfl, hb2, hc2⟩ := HR2.out (by rintro rfl; simp at hlt)
      have g1 := (hB.cell (p := ⟨b1, o1 + k, none⟩) hb1).trans (hc1 k hlt)
      have g2 := (hB.cell (p := ⟨b2, o2 + k, none⟩) hb2).trans (hc2 k hlt)
      have r1 := (HV1.out k hlt).below hB
      have r2 := (HV2.out k hlt).below hB
      have k1 : ∀ W, W = wr.drew → (Go.convert 22 9 (V1 k)).run Try.prog W = .ok (.string (strOfNums (ls[k]?.getD []))) W := by rintro _ rfl; exact Row.convert (w := wr.drew) (by exact r1)
      have k2 : ∀ W, W = wr.drew → (Go.convert 22 9 (V2 k)).run Try.prog W = .ok (.string (strOfNums (ls[k]?.getD []))) W := by rintro _ rfl; exact Row.convert (w := wr.drew) (by exact r2)
      have k1 := k1 _ rfl
      have k2 := k2 _ rfl
      have k3 := r1.convert
      have k4 := r2.convert
      obtain ⟨x1, n1, e1⟩ : ∃ a c, V1 k = .slice a (ls[k]?.getD []).length c := by obtain ⟨a, c, e, -⟩ := r1; exact ⟨a, c, e⟩
      obtain ⟨x2, n2, e2⟩ : ∃ a c, V2 k = .slice a (ls[k]?.getD []).length c := by obtain ⟨a, c, e, -⟩ := r2; exact ⟨a, c, e⟩
      rw [e1] at g1 k1 k3
      rw [e2] at g2 k2 k4
      obtain ⟨q, hq⟩ : ∃ q, ls[k]?.getD [] = q := ⟨_, rfl⟩
      rw [hq] at g1 g2 k1 k2 k3 k4
      clear hc1 hc2 r1 r2 e1 e2 hq
      go_wp2_with fail
      go_region
      all_goals
        go_wp2_with fail
        go_roundw
        case rel => exact ⟨k + 1, by omega, by go_num, hB.drew⟩
        case measure => simp [intOf]; omega
    · go_wp2_with fail
      go_ret
      exact ⟨ret_bool (by simp), hB⟩

/-- How much room rows take. -/
def rooms (ls : List (List Int)) : Nat := (ls.map fun l => l.length + 1).foldl (· + ·) 0
theorem rooms_snoc (ls : List (List Int)) (k : Nat) (h : k < ls.length) : rooms (ls.take (k + 1)) = rooms (ls.take k) + (1 + (ls[k]?.getD []).length) := by
  unfold rooms
  rw [List.take_succ_eq_append_getElem h, List.map_append, List.foldl_append, List.getElem?_eq_getElem h]
  simp; omega
theorem rooms_le (ls : List (List Int)) (B : Nat) (h : ∀ i, i < ls.length → (ls[i]?.getD []).length ≤ B) (k : Nat) (hk : k ≤ ls.length) : rooms (ls.take k) ≤ k * (B + 1) := by
  induction k with
  | zero => simp [rooms]
  | succ k ih =>
    rw [rooms_snoc ls k (by omega), Nat.succ_mul]
    have := h k (by omega)
    have := ih (by omega)
    omega
end Go.Proofs.Ytiijlakilogekaa
