/-
  The walk over hash.Mix.
-/
import Derived.Test.YtlaidjgdipacgaaGreatDoorHa
namespace Go.Proofs.YtlaidjgdipacgaaGreatDoor
open Go.RowKit

theorem Boxed.at (w : World) (t : TypeId) (v : Value) {B : Nat} (h : B = w.heap.size) : Boxed (w.alloc (.cells #[v] t)) B t v := by subst h; exact Boxed.new w t v
theorem Trip.halloc {W : World} {B : Nat} {t : TypeId} {x y z : Value} (h : Trip W B t x y z) (o : Obj) : Trip (W.alloc o) B t x y z := (Below.heap_alloc W o B h.lt).trans h
theorem Trip.hnew (W : World) (t : TypeId) (x y z : Value) : Trip (W.alloc (.cells #[x, y, z] t)) W.heap.size t x y z := by show (W.heap.push _)[W.heap.size]? = _; simp
theorem Trip.kept {W W' : World} {B n : Nat} {t : TypeId} {x y z : Value} (h : Trip W B t x y z) (hb : Below n W W') (hlt : B < n) : Trip W' B t x y z := (hb.block B hlt).trans h

theorem rounds_U64 (s : Hm.St) (ua : U64 s.a) (ub : U64 s.b) (uc : U64 s.c) (k : Nat) : U64 (Hm.rounds k s).a ∧ U64 (Hm.rounds k s).b ∧ U64 (Hm.rounds k s).c := by
  cases k with
  | zero => exact ⟨ua, ub, uc⟩
  | succ k =>
    obtain ⟨h1, h2, h3⟩ := Hm.round_ok k (Hm.rounds k s)
    exact ⟨U64.of_rng h1, U64.of_rng h2, U64.of_rng h3⟩
/-- One round, by its parts. -/
theorem round_parts (k : Nat) (s : Hm.St) : ∃ x y z t1 t2 t3 : Int, Hm.lift (3 * (k : Int) + 0 + 1) s.a = x ∧ Hm.lift (3 * (k : Int) + 1 + 1) s.b = y ∧ Hm.lift (3 * (k : Int) + 2 + 1) s.c = z ∧ Fm.add 0 x = t1 ∧ Fm.add t1 y = t2 ∧ Fm.add t2 z = t3 ∧
    (0 ≤ x ∧ x < Fm.P) ∧ (0 ≤ y ∧ y < Fm.P) ∧ (0 ≤ z ∧ z < Fm.P) ∧ (0 ≤ t3 ∧ t3 < Fm.P) ∧ Fm.add x t3 = (Hm.round k s).a ∧ Fm.add y t3 = (Hm.round k s).b ∧ Fm.add z t3 = (Hm.round k s).c := by
  refine ⟨_, _, _, _, _, _, rfl, rfl, rfl, rfl, rfl, rfl, Fm.pow_rng _ _, Fm.pow_rng _ _, Fm.pow_rng _ _, Fm.add_rng _ _, ?_, ?_, ?_⟩ <;>
  · have hx := Fm.pow_rng (Fm.add s.a ((3 * (k : Int) + 1) * (3 * (k : Int) + 1) * (3 * (k : Int) + 1) + 7)) 17
    have e0 : Fm.add 0 (Hm.lift (3 * (k : Int) + 1) s.a) = Hm.lift (3 * (k : Int) + 1) s.a := by
      unfold Fm.add; rw [Int.zero_add]; exact Fm.mod_small _ hx.1 hx.2
    simp only [Hm.round, Int.add_zero, Int.add_assoc, e0]; rfl

set_option maxRecDepth 100000 in
set_option maxHeartbeats 2000000 in
theorem Mix_any (s : Hm.St) (w : World) (ua : U64 s.a) (ub : U64 s.b) (uc : U64 s.c) :
    Calls Tryz.prog 110 #[.agg #[.int .u64 s.a, .int .u64 s.b, .int .u64 s.c]] w fun e w' => e = .returned (.agg #[.int .u64 (Hm.mix s).a, .int .u64 (Hm.mix s).b, .int .u64 (Hm.mix s).c]) ∧ Below w.heap.size w w' := by
  have RU := Lib.hid (rounds_U64 s ua ub uc)
  obtain ⟨B0, hB0⟩ : ∃ B0, w.heap.size = B0 := ⟨_, rfl⟩
  go_enter Tryz.func110, Tryz.ntmps110
  go_wp2_with fail
  have t0 := Trip.hnew ((w.alloc (.cells #[.int .u64 s.a, .int .u64 s.b, .int .u64 s.c] 168)).alloc (.cells #[.int .u64 0, .int .u64 0, .int .u64 0] 168)) 192 (.int .u64 s.a) (.int .u64 s.b) (.int .u64 s.c)
  have r0 := (Trip.hnew (w.alloc (.cells #[.int .u64 s.a, .int .u64 s.b, .int .u64 s.c] 168)) 168 (.int .u64 0) (.int .u64 0) (.int .u64 0)).halloc (.cells #[.int .u64 s.a, .int .u64 s.b, .int .u64 s.c] 192)
  have b0 : Below w.heap.size w (((w.alloc (.cells #[.int .u64 s.a, .int .u64 s.b, .int .u64 s.c] 168)).alloc (.cells #[.int .u64 0, .int .u64 0, .int .u64 0] 168)).alloc (.cells #[.int .u64 s.a, .int .u64 s.b, .int .u64 s.c] 192)) := (((Below.refl _ w).alloc (Nat.le_refl _) _).alloc (by simp) _).alloc (by simp; omega) _
  simp only [World.size_alloc] at t0 r0
  rw [hB0] at t0 r0 b0
  go_loopw [7] (fun i wr => ∃ k : Nat, k ≤ 8 ∧ i = .int .i64 k ∧ Trip wr (B0 + 1 + 1) 192 (.int .u64 (Hm.rounds k s).a) (.int .u64 (Hm.rounds k s).b) (.int .u64 (Hm.rounds k s).c) ∧ Trip wr (B0 + 1) 168 (.int .u64 0) (.int .u64 0) (.int .u64 0) ∧ Below B0 w wr) (fun i _ => (8 - intOf i).toNat)
  case atStart => exact ⟨0, by omega, rfl, t0, r0, b0⟩
  case round =>
    obtain ⟨k, hk, rfl, ht, hr, hb⟩ := hrel
    by_cases hlt : k < 8
    · obtain ⟨u1, u2, u3⟩ := RU.out k
      obtain ⟨x, y, z, t1, t2, t3, q1, q2, q3, q4, q5, q6, v1, v2, v3, v4, p1, p2, p3⟩ := round_parts k (Hm.rounds k s)
      obtain ⟨a, ea⟩ : ∃ a, (Hm.rounds k s).a = a := ⟨_, rfl⟩
      obtain ⟨b, eb⟩ : ∃ b, (Hm.rounds k s).b = b := ⟨_, rfl⟩
      obtain ⟨c, ec⟩ : ∃ c, (Hm.rounds k s).c = c := ⟨_, rfl⟩
      rw [ea] at ht u1 q1; rw [eb] at ht u2 q2; rw [ec] at ht u3 q3
      have Q1 := Lib.hid q1; have Q2 := Lib.hid q2; have Q3 := Lib.hid q3; have Q4 := Lib.hid q4; have Q5 := Lib.hid q5; have Q6 := Lib.hid q6
      have P1 := Lib.hid p1; have P2 := Lib.hid p2; have P3 := Lib.hid p3
      have V1 := Lib.hid (U64.of_rng v1); have V2 := Lib.hid (U64.of_rng v2); have V3 := Lib.hid (U64.of_rng v3); have V4 := Lib.hid (U64.of_rng v4)
      clear q1 q2 q3 q4 q5 q6 p1 p2 p3 v1 v2 v3 v4 ea eb ec
      have hlts := ht.lt
      go_wp2_with fail
      have bR := (Boxed.new wr 3 (.int .i64 k)).alloc (.cells #[.int .u64 0] 25)
      have bA := Boxed.new (wr.alloc (.cells #[.int .i64 k] 3)) 25 (.int .u64 0)
      have hT := (ht.halloc (.cells #[.int .i64 k] 3)).halloc (.cells #[.int .u64 0] 25)
      simp only [World.size_alloc] at bA
      refine (each1_any k a b c x y z t1 t2 t3 (B0 + 1 + 1) wr.heap.size (wr.heap.size + 1) _ (by omega) u1 u2 u3 (by omega) (by omega) (by omega) Q1.out Q2.out Q3.out Q4.out Q5.out Q6.out hT bR bA).mono ?_; rintro e w1 ⟨rfl, hO, hT1, hA1⟩
      have hb1 : Below B0 w w1 := by
        have h1 := (hb.alloc (by omega) (.cells #[.int .i64 k] 3)).alloc (by simp; omega) (.cells #[.int .u64 0] 25)
        exact h1.trans (hO.to_below (by simp; omega) (fun j hj hs => by omega))
      have hr1 : Trip w1 (B0 + 1) 168 (.int .u64 0) (.int .u64 0) (.int .u64 0) := hO.trip ((hr.halloc _).halloc _) (by omega)
      clear hO hT bA bR
      go_wp2_with fail
      refine (each2_any x y z t3 _ _ _ (B0 + 1 + 1) (wr.heap.size + 1) _ V1.out V2.out V3.out V4.out (by omega) P1.out P2.out P3.out hT1 hA1).mono ?_; rintro e w2 ⟨rfl, hO2, hT2⟩
      have hb2 : Below B0 w w2 := hb1.trans (hO2.to_below (by have := hT1.lt; omega) (fun j hj hs => by omega))
      have hr2 := hO2.trip hr1 (by omega)
      clear hO2 hT1 hA1 hr1 hb1
      go_wp2_with fail
      go_roundw
      case rel => exact ⟨k + 1, by omega, by go_num, hT2, hr2, hb2⟩
      case measure => simp [intOf]; omega
    · obtain rfl : k = 8 := by omega
      have c0 := ht.cell0
      have c1 := ht.cell1
      have c2 := ht.cell2
      have d0 := hr.cell0
      have d1 := hr.cell1
      have d2 := hr.cell2
      have g0 := hr.free 0
      have g1 := hr.free 1
      have g2 := hr.free 2
      go_wp2_with fail
      have hz : Trip (((wr.setCell ⟨B0 + 1, 0, none⟩ (.int .u64 (Hm.rounds 8 s).a)).setCell ⟨B0 + 1, 1, none⟩ (.int .u64 (Hm.rounds 8 s).b)).setCell ⟨B0 + 1, 2, none⟩ (.int .u64 (Hm.rounds 8 s).c)) (B0 + 1) 168 (.int .u64 (Hm.rounds 8 s).a) (.int .u64 (Hm.rounds 8 s).b) (.int .u64 (Hm.rounds 8 s).c) := ((hr.set0 _).set1 _).set2 _
      refine bodyPost_ret (v := .agg #[.int .u64 (Hm.mix s).a, .int .u64 (Hm.mix s).b, .int .u64 (Hm.mix s).c]) ?_ rfl ⟨rfl, ?_⟩
      · exact results_cell_row (p := 2) (ty := 168) rfl _ _ (B0 + 1) _ _ _ _ rfl hz rfl rfl rfl
      · rw [hB0]; exact ((hb.setCell (by simp) _).setCell (by simp) _).setCell (by simp) _
end Go.Proofs.YtlaidjgdipacgaaGreatDoor
