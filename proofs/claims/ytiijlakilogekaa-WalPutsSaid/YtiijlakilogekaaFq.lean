/-
  The walk over greatsealref01.Of.
-/
import Derived.Test.YtiijlakilogekaaFg
namespace Go.Proofs.Ytiijlakilogekaa
open Go.RowKit

set_option maxHeartbeats 1000000 in
theorem ROf_any (v : Value) (l : List Int) (w : World) (h : Row .u8 w v l) (hlen : l.length ≤ 1000000) :
    Calls Try.prog 37 #[v] w fun e w' => ∃ r, e = .returned r ∧ Row .u64 w' r (elems l) ∧ Below w.heap.size w w' := by
  obtain ⟨a1, c1, rfl, hl1, hc1, -, hw1, hr1⟩ := h
  have hby : ∀ x ∈ l, byte x := fun x hx => byte_wf (hw1 x hx)
  unfold maxLen at hc1
  by_cases hne : l = []
  · subst hne
    clear hr1
    go_enter Try.func37, Try.ntmps37
    go_wp2_with fail
    go_loop [3, 4, 5, 6, 7] (fun o i _ _ _ => i = .int .i64 0 ∧ o = .slice none 0 0) (fun _ _ _ _ _ => 0)
    case atStart => exact ⟨rfl, rfl⟩
    case round =>
      obtain ⟨rfl, rfl⟩ := hrel
      go_wp2_with fail
      go_ret
      exact ⟨_, rfl, Row.nil _ _, Below.refl _ _⟩
  · obtain ⟨b1, o1, rfl, hb1, hx1⟩ := hr1 hne
    obtain ⟨i0, hi, hz0, hz1, hz2⟩ := info_parts info_u64
    have H1 := Lib.hid hx1
    have HB := Lib.hid hby
    clear hr1 hx1 hw1 hne hby
    go_enter Try.func37, Try.ntmps37
    go_wp2_with fail
    go_loopw [3, 4, 5, 6, 7] (fun o i _ _ _ wr => ∃ j : Nat, j ≤ (l.length + 6) / 7 ∧ i = .int .i64 (7 * (j : Int)) ∧ wr.ownsRow w.heap.size 50 1 o j ((upto (elem l) j).map (Value.int .u64)) ∧ Below w.heap.size w wr)
      (fun _ i _ _ _ _ => l.length + 7 - (intOf i).toNat)
    case atStart => exact ⟨0, Nat.zero_le _, by go_num, World.ownsRow_nil _ _ _ _, Below.refl _ _⟩
    case round =>
      obtain ⟨j, hj, rfl, hown, hB⟩ := hrel
      by_cases hlt : 7 * j < l.length
      · obtain ⟨wo, rfl⟩ : ∃ wo : World, wo = wr := ⟨_, rfl⟩
        go_wp2_with fail
        go_loop [5, 6, 7] (fun n u k => ∃ m : Nat, m ≤ 7 ∧ 7 * j + m ≤ l.length ∧ k = .int .i64 (7 * (j : Int) + m) ∧ u = .int .u64 (256 ^ m) ∧ n = .int .u64 (le ((l.drop (7 * j)).take m))) (fun _ _ k => (7 * (j : Int) + 7 - intOf k).toNat)
        case atStart => exact ⟨0, by omega, by omega, by go_num, by simp, by simp [le]⟩
        case round =>
          obtain ⟨m, hm, hml, rfl, rfl, rfl⟩ := hrel
          by_cases hin : 7 * j + m < l.length ∧ m < 7
          · obtain ⟨hin1, hin2⟩ := hin
            have g1 := (hB.cell (p := ⟨b1, o1 + (7 * j + m), none⟩) hb1).trans (H1.out (7 * j + m) hin1)
            have hs := part_snoc l (7 * j) m hin1
            have hr := part_rng l HB.out (7 * j) m (by omega)
            have hp := pow256_le m (by omega)
            have hp6 := pow256_le (m + 1) (by omega)
            have hc := getD_byte l HB.out (7 * j + m)
            obtain ⟨c, ec⟩ : ∃ c, l[7 * j + m]?.getD 0 = c := ⟨_, rfl⟩
            obtain ⟨p, ep⟩ : ∃ p, (256 : Int) ^ m = p := ⟨_, rfl⟩
            obtain ⟨n, en⟩ : ∃ n, le ((l.drop (7 * j)).take m) = n := ⟨_, rfl⟩
            rw [Int.pow_succ, ep] at hp6
            rw [ec] at g1 hc hs
            rw [ep] at hp hs
            rw [en] at hr hs
            rw [ep, en]
            have hpc : 0 ≤ p * c ∧ p * c ≤ 18374686479671623680 := ⟨Int.mul_nonneg (by omega) hc.1, by have := Int.mul_le_mul hp.2 hc.2 hc.1 (by omega); omega⟩
            have e0 : IntKind.u64.wrap c = c := IntWalk.u64_in _ (by unfold byte at hc; omega)
            have e1 : IntKind.u64.wrap (p * c) = p * c := IntWalk.u64_in _ (by omega)
            have e2 : IntKind.u64.wrap (n + p * c) = n + p * c := IntWalk.u64_in _ (by omega)
            have e3 : IntKind.u64.wrap (p * 256) = p * 256 := IntWalk.u64_in _ (by omega)
            have Hs := Lib.hid hs
            have Ep := Lib.hid ep
            clear hs hr hp hp6 hc ec ep en hpc
            go_wp2_with fail
            go_round
            case rel => (repeat apply Exists.intro); refine ⟨⟨m + 1, by omega, by omega, ?_, ?_, ?_⟩, rfl, rfl, rfl⟩ <;> first | go_num | rw [Int.pow_succ, Ep.out] | rw [Hs.out]
            case measure => simp [intOf]; omega
          · have hfull : (l.drop (7 * j)).take m = (l.drop (7 * j)).take 7 := by
              by_cases h7 : m = 7
              · rw [h7]
              · rw [List.take_of_length_le (by simp; omega), List.take_of_length_le (by simp; omega)]
            rw [hfull]
            obtain ⟨x, ex⟩ : ∃ x, elem l j = x := ⟨_, rfl⟩
            rw [show le ((l.drop (7 * j)).take 7) = x from ex]
            have Ex := Lib.hid ex
            clear hfull ex
            go_wp2_with (at_builtin; refine wpList_append_own _ rfl _ _ 58 rfl w.heap.size 50 i0 (.int .u64 0) 1 8 Try.underlying58 hi hz0 hz1 hz2 rfl (by decide) _ _ _ rfl (hown.alloc _) ⟨wo.heap.size, 0, none⟩ 1 1 [.int .u64 x] rfl rfl (cell_one_new _ _ _) (by simp [Value.oneCell']) (by unfold maxLen; omega) (by omega) (by have := hB.size; simp; omega) ?_; intro v' w1 hown' hgrow _)
            all_goals
              have hown2 : w1.ownsRow w.heap.size 50 1 v' (j + 1) ((upto (elem l) (j + 1)).map (Value.int .u64)) := by
                rw [upto_succ, List.map_append, List.map_singleton, Ex.out]; exact hown'
              have hB2 : Below w.heap.size w w1 := (hB.alloc hB.size _).grown hgrow (by have := hB.size; simp; omega) (fun k e => own_above hown (by exact e))
              clear hown' hgrow hown
              go_roundw
              case rel => exact ⟨j + 1, by omega, by go_num, hown2, hB2⟩
              case measure => simp [intOf]; omega
      · go_wp2_with fail
        go_ret
        obtain rfl : j = (l.length + 6) / 7 := by omega
        refine ⟨_, rfl, Row.of_owns (base := w.heap.size) (e := 50) ?_ (fun x hx => elem_wf l HB.out x hx), hB⟩
        rw [elems_length]; exact hown
end Go.Proofs.Ytiijlakilogekaa
