/-
  The walk over hash.put.
-/
import Derived.Test.YtlaidjgdipacgaaGreatDoorHa
import Derived.Test.YtlaidjgdipacgaaGreatDoorSb
namespace Go.Proofs.YtlaidjgdipacgaaGreatDoor
open Go.RowKit

theorem be_succ (k : Nat) (n : Int) : Hm.be (k + 1) n = n / 256 ^ k % 256 :: Hm.be k n := rfl

set_option maxRecDepth 100000 in
set_option maxHeartbeats 2000000 in
theorem hput_any (base : Nat) (v : Value) (l : List Int) (n : Int) (k : Nat) (w : World) (hown : w.ownsRow base 5 1 v l.length (l.map (Value.int .u8))) (hk : k ≤ 8) (hlen : l.length ≤ 1000000) (hbase : base ≤ w.heap.size) :
    Calls Tryz.prog 77 #[v, .int .u64 n, .int .i64 k] w fun e w' => ∃ v', e = .returned v' ∧ w'.ownsRow base 5 1 v' (l ++ Hm.be k n).length ((l ++ Hm.be k n).map (Value.int .u8)) ∧ Below base w w' := by
  obtain ⟨i0, hi, hz⟩ := Option.map_eq_some_iff.1 info_u8
  injection hz with hz0 hz; injection hz with hz1 hz2
  go_enter Tryz.func77, Tryz.ntmps77
  go_wp2_with fail
  go_loopw [0, 2] (fun v i wr => ∃ (j : Nat) (p : List Int), j ≤ k ∧ i = .int .i64 ((j : Int) - 1) ∧ p ++ Hm.be j n = Hm.be k n ∧ wr.ownsRow base 5 1 v (l ++ p).length ((l ++ p).map (Value.int .u8)) ∧ Below base w wr) (fun _ i _ => (intOf i + 1).toNat)
  case atStart => exact ⟨k, [], by omega, by go_num, rfl, by simpa using hown, Below.refl _ _⟩
  case round =>
    obtain ⟨j, p, hj, rfl, hp, hr, hb⟩ := hrel
    have hpl : p.length + j = k := by
      have := congrArg List.length hp
      simpa [Hm.be_length] using this
    by_cases hlt : 1 ≤ j
    · obtain ⟨m, rfl⟩ : ∃ m, j = m + 1 := ⟨j - 1, by omega⟩
      have em : ((m + 1 : Nat) : Int) - 1 = m := by omega
      rw [em]
      obtain ⟨c, ec⟩ : ∃ c, n / 256 ^ m % 256 = c := ⟨_, rfl⟩
      have hc : 0 ≤ c ∧ c < 256 := by rw [← ec]; exact ⟨Int.emod_nonneg _ (by omega), Int.emod_lt_of_pos _ (by omega)⟩
      have e2 : n / 2 ^ (8 * m) % 256 = c := by
        rw [← ec, Int.pow_mul, show ((2 : Int) ^ 8) = 256 by decide]
      have hs := be_succ m n
      rw [ec] at hs
      rw [hs] at hp
      have Hp' := Lib.hid hp
      have Hc := Lib.hid hc
      clear hs ec hc hp
      have e1 : IntKind.i64.wrap (8 * (m : Int)) = 8 * (m : Int) := IntWalk.i64_in _ (by omega)
      go_wp2_with (at_builtin; rw [e2]; refine wpList_append_own _ rfl _ _ 22 rfl base 5 i0 (.int .u8 0) 1 1 Tryz.underlying22 hi hz0 hz1 hz2 rfl (by decide) _ _ _ rfl (hr.alloc _) ⟨wr.heap.size, 0, none⟩ 1 1 [.int .u8 c] rfl rfl (cell_one_new _ _ _) (by simp [Value.oneCell']) (by simp only [List.length_append]; unfold maxLen; omega) (by simp only [List.length_append]; omega) (by have := hb.size; simp; omega) ?_; intro v' w1 hown' hgrow _)
      all_goals
        have hown2 : w1.ownsRow base 5 1 v' (l ++ (p ++ [c])).length ((l ++ (p ++ [c])).map (Value.int .u8)) := by
          rw [← List.append_assoc, List.map_append, List.length_append]; exact hown'
        have hb2 : Below base w w1 := (hb.alloc (by have := hb.size; omega) _).grown hgrow (by have := hb.size; simp; omega) (fun k e => own_above hr (by exact e))
        exact ⟨⟨m, p ++ [c], by omega, rfl, by rw [List.append_assoc]; exact Hp'.out, hown2, hb2⟩, by simp [intOf]⟩
    · obtain rfl : j = 0 := by omega
      have hpe : p = Hm.be k n := by simpa [Hm.be] using hp
      subst hpe
      go_wp2_with fail
      go_ret
      exact ⟨_, rfl, hr, hb⟩
end Go.Proofs.YtlaidjgdipacgaaGreatDoor
