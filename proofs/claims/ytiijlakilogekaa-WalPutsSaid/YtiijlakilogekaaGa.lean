/-
  Walks over greatsealref02: raised, round.
-/
import Derived.Test.YtiijlakilogekaaHx
import Derived.Test.YtiijlakilogekaaFr
import Derived.Test.YtiijlakilogekaaKb
import Derived.Deep.RegionHeld3
namespace Go.Proofs.Ytiijlakilogekaa
open Go.RowKit

set_option maxHeartbeats 400000 in
theorem Raised_any (a : Int) (n : Nat) (w : World) (ha : U64 a) (hn : n ≤ 1000) :
    Calls Try.prog 50 #[.int .u64 a, .int .i64 n] w fun e w' => e = .returned (.int .u64 (Fm.pow a n)) ∧ w = w' := by
  have HA := Lib.hid ha
  clear ha
  go_enter Try.func50, Try.ntmps50
  go_wp2_with fail
  go_loop [5, 6] (fun x i => ∃ k : Nat, k ≤ n ∧ x = .int .u64 (Fm.pow a k) ∧ i = .int .i64 k) (fun _ i => n - (intOf i).toNat)
  case atStart => exact ⟨0, Nat.zero_le _, by rw [Fm.pow_zero], rfl⟩
  case round =>
    obtain ⟨k, hk, rfl, rfl⟩ := hrel
    by_cases hlt : k < n
    · obtain ⟨p, hp⟩ : ∃ p, Fm.pow a k = p := ⟨_, rfl⟩
      have hs := Fm.pow_succ a k
      have up := Lib.hid (U64.of_rng (Fm.pow_rng a k))
      rw [hp] at hs up
      rw [hp]
      have Hs := Lib.hid hs
      clear hs hp
      go_wp2_with fail
      refine (RMul_any _ _ _ up.out HA.out).mono ?_; rintro e w' ⟨rfl, rfl⟩
      go_wp2_with fail
      go_round
      case rel => exact ⟨k + 1, by omega, by rw [Hs.out], by go_num⟩
      case measure => simp [intOf]; omega
    · obtain rfl : k = n := by omega
      go_wp2_with fail
      go_ret
      exact ⟨rfl, rfl⟩

theorem lift_eq (m s : Int) : Fm.pow (Fm.add s (Fm.add (Fm.pow m 3) 7)) 17 = Hm.lift m s := by
  have e : m ^ 3 = m * m * m := by rw [Int.pow_succ, Int.pow_succ, Int.pow_succ, Int.pow_zero, Int.one_mul]
  unfold Hm.lift
  congr 1
  unfold Fm.add Fm.pow
  rw [e]
  simp only [Int.add_emod_emod, Int.emod_add_emod]

set_option maxRecDepth 100000 in
set_option maxHeartbeats 4000000 in
theorem RRound_any (r : Nat) (a b c : Int) (w : World) (hr : r < 8) (ua : U64 a) (ub : U64 b) (uc : U64 c) :
    Calls Try.prog 46 #[.agg #[.int .u64 a, .int .u64 b, .int .u64 c], .int .i64 r] w fun e w' => e = .returned (.agg #[.int .u64 (Hm.round r ⟨a, b, c⟩).a, .int .u64 (Hm.round r ⟨a, b, c⟩).b, .int .u64 (Hm.round r ⟨a, b, c⟩).c]) ∧ Below w.heap.size w w' := by
  obtain ⟨x, hx⟩ : ∃ x, Hm.lift (3 * (r : Int) + 1) a = x := ⟨_, rfl⟩
  obtain ⟨y, hy⟩ : ∃ y, Hm.lift (3 * (r : Int) + 2) b = y := ⟨_, rfl⟩
  obtain ⟨z, hz⟩ : ∃ z, Hm.lift (3 * (r : Int) + 3) c = z := ⟨_, rfl⟩
  obtain ⟨t1, ht1⟩ : ∃ t, Fm.add x y = t := ⟨_, rfl⟩
  obtain ⟨t, ht⟩ : ∃ t, Fm.add t1 z = t := ⟨_, rfl⟩
  have hR : Hm.round r ⟨a, b, c⟩ = ⟨Fm.add x t, Fm.add y t, Fm.add z t⟩ := by unfold Hm.round; simp only [hx, hy, hz, ht1, ht]
  rw [hR]
  have Ux := Lib.hid (show U64 x by rw [← hx]; exact U64.of_rng (Fm.pow_rng _ _))
  have Uy := Lib.hid (show U64 y by rw [← hy]; exact U64.of_rng (Fm.pow_rng _ _))
  have Uz := Lib.hid (show U64 z by rw [← hz]; exact U64.of_rng (Fm.pow_rng _ _))
  have Ut1 := Lib.hid (show U64 t1 by rw [← ht1]; exact U64.of_rng (Fm.add_rng _ _))
  have Ut := Lib.hid (show U64 t by rw [← ht]; exact U64.of_rng (Fm.add_rng _ _))
  have HX := Lib.hid hx; have HY := Lib.hid hy; have HZ := Lib.hid hz; have HT1 := Lib.hid ht1; have HT := Lib.hid ht
  have UA := Lib.hid ua; have UB := Lib.hid ub; have UC := Lib.hid uc
  have e0 : IntKind.i64.wrap (3 * (r : Int)) = 3 * (r : Int) := IntWalk.i64_in _ (by omega)
  have e1 : IntKind.i64.wrap (3 * (r : Int) + 1) = 3 * (r : Int) + 1 := IntWalk.i64_in _ (by omega)
  have e2 : IntKind.i64.wrap (3 * (r : Int) + 2) = 3 * (r : Int) + 2 := IntWalk.i64_in _ (by omega)
  have e3 : IntKind.i64.wrap (3 * (r : Int) + 1 + 1) = 3 * (r : Int) + 2 := by rw [IntWalk.i64_in _ (by omega)]; omega
  have e4 : IntKind.i64.wrap (3 * (r : Int) + 2 + 1) = 3 * (r : Int) + 3 := by rw [IntWalk.i64_in _ (by omega)]; omega
  have d1 : IntKind.u64.wrap (3 * (r : Int) + 1) = 3 * (r : Int) + 1 := IntWalk.u64_in _ (by omega)
  have d2 : IntKind.u64.wrap (3 * (r : Int) + 2) = 3 * (r : Int) + 2 := IntWalk.u64_in _ (by omega)
  have d3 : IntKind.u64.wrap (3 * (r : Int) + 3) = 3 * (r : Int) + 3 := IntWalk.u64_in _ (by omega)
  have H3 := Lib.hid (show U64 (3 * (r : Int) + 1) ∧ U64 (3 * (r : Int) + 2) ∧ U64 (3 * (r : Int) + 3) from ⟨by unfold U64; omega, by unfold U64; omega, by unfold U64; omega⟩)
  clear hx hy hz ht1 ht hR ua ub uc
  obtain ⟨B, hB⟩ : ∃ B, w.heap.size = B := ⟨_, rfl⟩
  have i0 := (Trip.new w 57 (.int .u64 a) (.int .u64 b) (.int .u64 c)).alloc (.cells #[.int .u64 0, .int .u64 0, .int .u64 0] 57) |>.alloc (.cells #[.int .u64 0, .int .u64 0, .int .u64 0] 57)
  have i1 := (Trip.new (w.alloc (.cells #[.int .u64 a, .int .u64 b, .int .u64 c] 57)) 57 (.int .u64 0) (.int .u64 0) (.int .u64 0)).alloc (.cells #[.int .u64 0, .int .u64 0, .int .u64 0] 57)
  have i2 := Trip.new ((w.alloc (.cells #[.int .u64 a, .int .u64 b, .int .u64 c] 57)).alloc (.cells #[.int .u64 0, .int .u64 0, .int .u64 0] 57)) 57 (.int .u64 0) (.int .u64 0) (.int .u64 0)
  have ib : Below w.heap.size w (((w.alloc (.cells #[.int .u64 a, .int .u64 b, .int .u64 c] 57)).alloc (.cells #[.int .u64 0, .int .u64 0, .int .u64 0] 57)).alloc (.cells #[.int .u64 0, .int .u64 0, .int .u64 0] 57)) := (((Below.refl _ w).alloc (Nat.le_refl _) _).alloc (by simp) _).alloc (by simp; omega) _
  simp only [World.size_alloc] at i1 i2
  rw [hB] at i0 i1 i2 ib
  go_enter Try.func46, Try.ntmps46
  go_wp2_with fail
  (try rw [hB])
  go_loopw [6] (fun i wr => ∃ k : Nat, i = .int .i64 k ∧ Trip wr B 57 (.int .u64 a) (.int .u64 b) (.int .u64 c) ∧ Trip wr (B + 1) 57 (.int .u64 0) (.int .u64 0) (.int .u64 0) ∧ Below B w wr ∧
    (k = 0 ∧ Trip wr (B + 1 + 1) 57 (.int .u64 0) (.int .u64 0) (.int .u64 0) ∨ k = 1 ∧ Trip wr (B + 1 + 1) 57 (.int .u64 x) (.int .u64 0) (.int .u64 0) ∨ k = 2 ∧ Trip wr (B + 1 + 1) 57 (.int .u64 x) (.int .u64 y) (.int .u64 0) ∨ k = 3 ∧ Trip wr (B + 1 + 1) 57 (.int .u64 x) (.int .u64 y) (.int .u64 z))) (fun i _ => 3 - (intOf i).toNat)
  case atStart => exact ⟨0, rfl, i0, i1, ib, .inl ⟨rfl, i2⟩⟩
  case round =>
    obtain ⟨k, rfl, ts, tr, hb, hk⟩ := hrel
    clear i0 i1 i2 ib
    have s0 := ts.cell0; have s1 := ts.cell1; have s2 := ts.cell2
    rcases hk with ⟨rfl, tx⟩ | ⟨rfl, tx⟩ | ⟨rfl, tx⟩ | ⟨rfl, tx⟩
    · have f0 := tx.free 0
      have cx := tx.cell0
      have ltx := tx.lt
      go_wp2_with fail
      refine (Raised_any _ 3 _ H3.out.1 (by decide)).mono ?_; rintro e w' ⟨rfl, rfl⟩
      go_wp2_with fail
      refine (RAdd_any _ 7 _ (U64.of_rng (Fm.pow_rng _ _)) (by unfold U64; omega)).mono ?_; rintro e w' ⟨rfl, rfl⟩
      go_wp2_with fail
      refine (RAdd_any a _ _ UA.out (U64.of_rng (Fm.add_rng _ _))).mono ?_; rintro e w' ⟨rfl, rfl⟩
      go_wp2_with fail
      refine (Raised_any _ 17 _ (U64.of_rng (Fm.add_rng _ _)) (by decide)).mono ?_; rintro e w' ⟨rfl, rfl⟩
      rw [lift_eq, HX.out]
      go_wp2_with fail
      go_roundw
      case rel => exact ⟨1, by go_num, ts.other (by simp <;> omega) _, tr.other (by simp <;> omega) _, hb.setCell (by simp <;> omega) _, .inr (.inl ⟨rfl, tx.set0 _⟩)⟩
      case measure => simp [intOf]
    · have f0 := tx.free 1
      have cx := tx.cell1
      have ltx := tx.lt
      go_wp2_with fail
      refine (Raised_any _ 3 _ H3.out.2.1 (by decide)).mono ?_; rintro e w' ⟨rfl, rfl⟩
      go_wp2_with fail
      refine (RAdd_any _ 7 _ (U64.of_rng (Fm.pow_rng _ _)) (by unfold U64; omega)).mono ?_; rintro e w' ⟨rfl, rfl⟩
      go_wp2_with fail
      refine (RAdd_any b _ _ UB.out (U64.of_rng (Fm.add_rng _ _))).mono ?_; rintro e w' ⟨rfl, rfl⟩
      go_wp2_with fail
      refine (Raised_any _ 17 _ (U64.of_rng (Fm.add_rng _ _)) (by decide)).mono ?_; rintro e w' ⟨rfl, rfl⟩
      rw [lift_eq, HY.out]
      go_wp2_with fail
      go_roundw
      case rel => exact ⟨2, by go_num, ts.other (by simp <;> omega) _, tr.other (by simp <;> omega) _, hb.setCell (by simp <;> omega) _, .inr (.inr (.inl ⟨rfl, tx.set1 _⟩))⟩
      case measure => simp [intOf]
    · have f0 := tx.free 2
      have cx := tx.cell2
      have ltx := tx.lt
      go_wp2_with fail
      refine (Raised_any _ 3 _ H3.out.2.2 (by decide)).mono ?_; rintro e w' ⟨rfl, rfl⟩
      go_wp2_with fail
      refine (RAdd_any _ 7 _ (U64.of_rng (Fm.pow_rng _ _)) (by unfold U64; omega)).mono ?_; rintro e w' ⟨rfl, rfl⟩
      go_wp2_with fail
      refine (RAdd_any c _ _ UC.out (U64.of_rng (Fm.add_rng _ _))).mono ?_; rintro e w' ⟨rfl, rfl⟩
      go_wp2_with fail
      refine (Raised_any _ 17 _ (U64.of_rng (Fm.add_rng _ _)) (by decide)).mono ?_; rintro e w' ⟨rfl, rfl⟩
      rw [lift_eq, HZ.out]
      go_wp2_with fail
      go_roundw
      case rel => exact ⟨3, by go_num, ts.other (by simp <;> omega) _, tr.other (by simp <;> omega) _, hb.setCell (by simp <;> omega) _, .inr (.inr (.inr ⟨rfl, tx.set2 _⟩))⟩
      case measure => simp [intOf]
    · have x0 := tx.cell0; have x1 := tx.cell1; have x2 := tx.cell2
      go_wp2_with fail
      go_region_held3 (fun w' => w'.cell? ⟨B + 1 + 1, 0, none⟩ = some (.int .u64 x) ∧ w'.cell? ⟨B + 1 + 1, 1, none⟩ = some (.int .u64 y) ∧ w'.cell? ⟨B + 1 + 1, 2, none⟩ = some (.int .u64 z))
        (first | go_keep | (refine ⟨?_, ?_, ?_⟩ <;> assumption))
        (first
          | (go_at_call 38; refine (RAdd_any x y _ Ux.out Uy.out).mono ?_; rintro e w' ⟨rfl, rfl⟩; rw [HT1.out])
          | (go_at_call 38; refine (RAdd_any t1 z _ Ut1.out Uz.out).mono ?_; rintro e w' ⟨rfl, rfl⟩; rw [HT.out]))
      all_goals
        replace ts : Trip wr.drew B 57 (.int .u64 a) (.int .u64 b) (.int .u64 c) := ts
        replace tr : Trip wr.drew (B + 1) 57 (.int .u64 0) (.int .u64 0) (.int .u64 0) := tr
        replace tx : Trip wr.drew (B + 1 + 1) 57 (.int .u64 x) (.int .u64 y) (.int .u64 z) := tx
        replace hb : Below B w wr.drew := hb.drew
        clear s0 s1 s2 x0 x1 x2
        generalize wr.drew = wv at *
        go_wp2_with fail
        go_loopw [9] (fun i wr => ∃ k : Nat, i = .int .i64 k ∧ Trip wr (B + 1) 57 (.int .u64 0) (.int .u64 0) (.int .u64 0) ∧ Below B w wr ∧
          (k = 0 ∧ Trip wr (B + 1 + 1) 57 (.int .u64 x) (.int .u64 y) (.int .u64 z) ∨ k = 1 ∧ Trip wr (B + 1 + 1) 57 (.int .u64 (Fm.add x t)) (.int .u64 y) (.int .u64 z) ∨ k = 2 ∧ Trip wr (B + 1 + 1) 57 (.int .u64 (Fm.add x t)) (.int .u64 (Fm.add y t)) (.int .u64 z) ∨ k = 3 ∧ Trip wr (B + 1 + 1) 57 (.int .u64 (Fm.add x t)) (.int .u64 (Fm.add y t)) (.int .u64 (Fm.add z t)))) (fun i _ => 3 - (intOf i).toNat)
        case atStart => exact ⟨0, rfl, tr, hb, .inl ⟨rfl, tx⟩⟩
        case round =>
          obtain ⟨k, rfl, tr', hb', hk⟩ := hrel
          clear tr tx ts hb
          rcases hk with ⟨rfl, tx⟩ | ⟨rfl, tx⟩ | ⟨rfl, tx⟩ | ⟨rfl, tx⟩
          · have f0 := tx.free 0
            have c0 := tx.cell0
            have ltx := tx.lt
            go_wp2_with fail
            refine (RAdd_any x t _ Ux.out Ut.out).mono ?_; rintro e w' ⟨rfl, rfl⟩
            go_wp2_with fail
            go_roundw
            case rel => exact ⟨1, by go_num, tr'.other (by simp <;> omega) _, hb'.setCell (by simp <;> omega) _, .inr (.inl ⟨rfl, tx.set0 _⟩)⟩
            case measure => simp [intOf]
          · have f0 := tx.free 1
            have c0 := tx.cell1
            have ltx := tx.lt
            go_wp2_with fail
            refine (RAdd_any y t _ Uy.out Ut.out).mono ?_; rintro e w' ⟨rfl, rfl⟩
            go_wp2_with fail
            go_roundw
            case rel => exact ⟨2, by go_num, tr'.other (by simp <;> omega) _, hb'.setCell (by simp <;> omega) _, .inr (.inr (.inl ⟨rfl, tx.set1 _⟩))⟩
            case measure => simp [intOf]
          · have f0 := tx.free 2
            have c0 := tx.cell2
            have ltx := tx.lt
            go_wp2_with fail
            refine (RAdd_any z t _ Uz.out Ut.out).mono ?_; rintro e w' ⟨rfl, rfl⟩
            go_wp2_with fail
            go_roundw
            case rel => exact ⟨3, by go_num, tr'.other (by simp <;> omega) _, hb'.setCell (by simp <;> omega) _, .inr (.inr (.inr ⟨rfl, tx.set2 _⟩))⟩
            case measure => simp [intOf]
          · have c0 := tx.cell0; have c1 := tx.cell1; have c2 := tx.cell2
            have g0 := tr'.free 0; have g1 := tr'.free 1; have g2 := tr'.free 2
            have d0 := tr'.cell0; have d1 := tr'.cell1; have d2 := tr'.cell2
            go_wp2_with fail
            have hz : Trip (((wr.setCell ⟨B + 1, 0, none⟩ (.int .u64 (Fm.add x t))).setCell ⟨B + 1, 1, none⟩ (.int .u64 (Fm.add y t))).setCell ⟨B + 1, 2, none⟩ (.int .u64 (Fm.add z t))) (B + 1) 57 (.int .u64 (Fm.add x t)) (.int .u64 (Fm.add y t)) (.int .u64 (Fm.add z t)) := ((tr'.set0 _).set1 _).set2 _
            refine bodyPost_ret (v := .agg #[.int .u64 (Fm.add x t), .int .u64 (Fm.add y t), .int .u64 (Fm.add z t)]) ?_ rfl ⟨rfl, ?_⟩
            · exact results_cell_row (p := 4) (ty := 57) rfl _ _ (B + 1) _ _ _ _ rfl hz rfl rfl rfl
            · rw [hB]; exact ((hb'.setCell (by simp) _).setCell (by simp) _).setCell (by simp) _
end Go.Proofs.Ytiijlakilogekaa
