/-
  Walks over package hash: seventeen, the two closures of Mix.
-/
import Derived.Test.YtlaidjgdipacgaaGreatDoorWb
import Derived.Test.YtlaidjgdipacgaaGreatDoorFg
import Derived.Test.YtlaidjgdipacgaaGreatDoorOn
import Derived.Deep.QuietTactic
import Derived.BigQuiet
import Derived.Deep.RegionWith
namespace Go.Proofs.YtlaidjgdipacgaaGreatDoor
open Go.RowKit

set_option maxHeartbeats 400000 in
theorem seventeen_any (x : Int) (w : World) (hx : U64 x) :
    Calls Tryz.prog 137 #[.int .u64 x] w fun e w' => e = .returned (.int .u64 (Fm.pow x 17)) ∧ w = w' := by
  go_enter Tryz.func137, Tryz.ntmps137
  go_wp2_with fail
  go_loop [3, 5] (fun y i => ∃ (k : Nat) (y' : Int), k ≤ 4 ∧ i = .int .i64 k ∧ y = .int .u64 y' ∧ Hid (U64 y') ∧ Hid (y' % Fm.P = Fm.pow x (2 ^ k))) (fun _ i => (4 - intOf i).toNat)
  case atStart => exact ⟨0, x, by omega, rfl, rfl, Lib.hid hx, Lib.hid (Fm.pow_one x).symm⟩
  case round =>
    obtain ⟨k, y, hk, rfl, rfl, HU, HE⟩ := hrel
    by_cases hlt : k < 4
    · go_wp2_with fail
      refine (Mul_any _ _ _ HU.out HU.out).mono ?_; rintro e w' ⟨rfl, rfl⟩
      go_wp2_with fail
      go_round
      case rel =>
        refine ⟨k + 1, _, by omega, by go_num, rfl, Lib.hid (U64.of_rng (Fm.mul_rng _ _)), Lib.hid ?_⟩
        have hr := Fm.mul_rng y y
        rw [Fm.mod_small _ hr.1 hr.2, ← Fm.mul_emod_l, ← Fm.mul_emod_r, HE.out, Fm.pow_sq, Nat.pow_succ, Nat.mul_comm]
      case measure => simp [intOf]; omega
    · obtain rfl : k = 4 := by omega
      have hf := Lib.hid (show Fm.mul x y = Fm.pow x 17 by rw [← Fm.mul_emod_r, HE.out, Fm.mul_comm, Fm.pow_succ])
      go_wp2_with fail
      refine (Mul_any _ _ _ hx HU.out).mono ?_; rintro e w' ⟨rfl, rfl⟩
      go_wp2_with fail
      go_ret
      exact ⟨ret_int hf.out, rfl⟩

set_option maxHeartbeats 400000 in
theorem Mix1_any (i r x t : Int) (Br Ba : Nat) (w : World) (hi : 0 ≤ i ∧ i ≤ 2) (hr : 0 ≤ r ∧ r ≤ 7) (hx : U64 x) (ht : U64 t) (br : Boxed w Br 3 (.int .i64 r)) (ba : Boxed w Ba 25 (.int .u64 t)) :
    Calls Tryz.prog 136 #[.int .i64 i, .int .u64 x, .pointer (some ⟨Br, 0, none⟩), .pointer (some ⟨Ba, 0, none⟩)] w fun e w' => e = .returned (.int .u64 (Hm.lift (3 * r + i + 1) x)) ∧ w' = w.setCell ⟨Ba, 0, none⟩ (.int .u64 (Fm.add t (Hm.lift (3 * r + i + 1) x))) := by
  have h1 := br.cell
  have h2 := ba.cell
  have h3 := ba.frozen
  obtain ⟨n, hn⟩ : ∃ n, 3 * r + i + 1 = n := ⟨_, rfl⟩
  have hn1 : 1 ≤ n ∧ n ≤ 24 := by omega
  have e1 : IntKind.u64.wrap n = n := IntWalk.u64_in _ (by omega)
  have m1 : 0 ≤ n * n ∧ n * n ≤ 24 * 24 := ⟨Int.mul_nonneg (by omega) (by omega), Int.mul_le_mul hn1.2 hn1.2 (by omega) (by omega)⟩
  have m2 : 0 ≤ n * n * n ∧ n * n * n ≤ 576 * 24 := ⟨Int.mul_nonneg m1.1 (by omega), Int.mul_le_mul m1.2 hn1.2 (by omega) (by omega)⟩
  have e2 : IntKind.u64.wrap (n * n) = n * n := IntWalk.u64_in _ (by omega)
  have e3 : IntKind.u64.wrap (n * n * n) = n * n * n := IntWalk.u64_in _ (by omega)
  have uq : U64 (n * n * n + 7) := ⟨by omega, by omega⟩
  have us := U64.of_rng (Fm.add_rng x (n * n * n + 7))
  have ul := U64.of_rng (Fm.pow_rng (Fm.add x (n * n * n + 7)) 17)
  have UQ := Lib.hid uq
  have HL := Lib.hid (show Hm.lift (3 * r + i + 1) x = Fm.pow (Fm.add x (n * n * n + 7)) 17 by rw [hn]; rfl)
  have e4 : IntKind.u64.wrap (n * n * n + 7) = n * n * n + 7 := IntWalk.u64_in _ (by omega)
  clear m1 m2 uq
  go_enter Tryz.func136, Tryz.ntmps136
  go_wp2_with fail
  refine (Add_any x (n * n * n + 7) _ hx UQ.out).mono ?_; rintro e w' ⟨rfl, rfl⟩
  go_wp2_with fail
  refine (seventeen_any _ _ us).mono ?_; rintro e w' ⟨rfl, rfl⟩
  go_wp2_with fail
  refine (Add_any _ _ _ ht ul).mono ?_; rintro e w' ⟨rfl, rfl⟩
  go_wp2_with fail
  go_ret
  rw [HL.out]
  exact ⟨rfl, rfl⟩

set_option maxHeartbeats 400000 in
theorem Mix2_any (i x t : Int) (Ba : Nat) (w : World) (hx : U64 x) (ht : U64 t) (ba : Boxed w Ba 25 (.int .u64 t)) :
    Calls Tryz.prog 138 #[.int .i64 i, .int .u64 x, .pointer (some ⟨Ba, 0, none⟩)] w fun e w' => e = .returned (.int .u64 (Fm.add x t)) ∧ w = w' := by
  have h2 := ba.cell
  go_enter Tryz.func138, Tryz.ntmps138
  go_wp2_with fail
  refine (Add_any x t _ hx ht).mono ?_; rintro e w' ⟨rfl, rfl⟩
  go_wp2_with fail
  go_ret
  exact ⟨rfl, rfl⟩

theorem grownBy_setC (W : World) (b o : Nat) (v : Value) : W.grownBy (W.setCell ⟨b, o, none⟩ v) (some b) :=
  ⟨rfl, rfl, rfl, by simp [World.setCell], fun k _ hk => Below.heap_setCell _ _ _ k (fun e => hk (by rw [e]))⟩
theorem Mix1_at (i r x t q t' : Int) (Br Ba : Nat) (w : World) (hi : 0 ≤ i ∧ i ≤ 2) (hr : 0 ≤ r ∧ r ≤ 7) (hx : U64 x) (ht : U64 t) (hq : Hm.lift (3 * r + i + 1) x = q) (htq : Fm.add t q = t') (br : Boxed w Br 3 (.int .i64 r)) (ba : Boxed w Ba 25 (.int .u64 t)) :
    Calls Tryz.prog 136 #[.int .i64 i, .int .u64 x, .pointer (some ⟨Br, 0, none⟩), .pointer (some ⟨Ba, 0, none⟩)] w fun e w' => e = .returned (.int .u64 q) ∧ w' = w.setCell ⟨Ba, 0, none⟩ (.int .u64 t') := by
  subst hq htq; exact Mix1_any i r x t Br Ba w hi hr hx ht br ba
theorem Mix2_at (i x t q : Int) (Ba : Nat) (w : World) (hx : U64 x) (ht : U64 t) (hq : Fm.add x t = q) (ba : Boxed w Ba 25 (.int .u64 t)) :
    Calls Tryz.prog 138 #[.int .i64 i, .int .u64 x, .pointer (some ⟨Ba, 0, none⟩)] w fun e w' => e = .returned (.int .u64 q) ∧ w = w' := by
  subst hq; exact Mix2_any i x t Ba w hx ht ba

set_option maxRecDepth 100000 in
set_option maxHeartbeats 2000000 in
theorem each1_any (r a b c x y z t1 t2 t3 : Int) (B Br Ba : Nat) (w : World) (hr : 0 ≤ r ∧ r ≤ 7) (ua : U64 a) (ub : U64 b) (uc : U64 c) (hB : B ≠ Ba) (hBr : B ≠ Br) (hra : Br ≠ Ba)
    (hx : Hm.lift (3 * r + 0 + 1) a = x) (hy : Hm.lift (3 * r + 1 + 1) b = y) (hz : Hm.lift (3 * r + 2 + 1) c = z) (h1 : Fm.add 0 x = t1) (h2 : Fm.add t1 y = t2) (h3 : Fm.add t2 z = t3)
    (ht : Trip w B 192 (.int .u64 a) (.int .u64 b) (.int .u64 c)) (br : Boxed w Br 3 (.int .i64 r)) (ba : Boxed w Ba 25 (.int .u64 0)) :
    Calls Tryz.prog 135 #[.pointer (some ⟨B, 0, none⟩), .func (.func 136) #[] #[.pointer (some ⟨Br, 0, none⟩), .pointer (some ⟨Ba, 0, none⟩)]] w fun e w' =>
      e = .returned (.tuple #[]) ∧ Only (fun k => k = B ∨ k = Ba) w w' ∧ Trip w' B 192 (.int .u64 x) (.int .u64 y) (.int .u64 z) ∧ Boxed w' Ba 25 (.int .u64 t3) := by
  have ut0 : U64 0 := ⟨by omega, by omega⟩
  have ut1 : U64 t1 := by rw [← h1]; exact U64.of_rng (Fm.add_rng _ _)
  have ut2 : U64 t2 := by rw [← h2]; exact U64.of_rng (Fm.add_rng _ _)
  have X := Lib.hid hx; have Y := Lib.hid hy; have Z := Lib.hid hz; have T1 := Lib.hid h1; have T2 := Lib.hid h2; have T3 := Lib.hid h3
  clear hx hy hz h1 h2 h3
  have o0 := Only.refl (fun k => k = B ∨ k = Ba) w
  go_enter Tryz.func135, Tryz.ntmps135
  go_wp2_with fail
  refine wp_loop_rounds 4 ?_
  rw [rounds_succ]
  have c0 := ht.cell0
  have f0 := ht.free 0
  have fa0 := ba.frozen
  go_wp2_with fail
  go_quiet (fail)
  go_wp2_with fail
  go_region_with (go_at_call 136; refine (Mix1_at 0 r a 0 x t1 Br Ba _ (by omega) hr ua ut0 X.out T1.out (by exact br) (by exact ba)).mono ?_; rintro e w' ⟨rfl, rfl⟩)
  go_wp2_with fail
  obtain ⟨w1, hw1⟩ : ∃ w1, ((w.drewN (nq + 1)).setCell ⟨Ba, 0, none⟩ (.int .u64 t1)).setCell ⟨B, 0, none⟩ (.int .u64 x) = w1 := ⟨_, rfl⟩
  rw [hw1]
  have ht1 : Trip w1 B 192 (.int .u64 x) (.int .u64 b) (.int .u64 c) := by rw [← hw1]; exact ((ht.drewN (nq + 1)).other (p := ⟨Ba, 0, none⟩) (fun e => hB e.symm) _).set0 _
  have br1 : Boxed w1 Br 3 (.int .i64 r) := by rw [← hw1]; exact (Boxed.other (W := w.drewN (nq + 1)) (by exact br) hra _).kept (grownBy_setC _ B 0 _) (fun e => hBr (by cases e; rfl))
  have ba1 : Boxed w1 Ba 25 (.int .u64 t1) := by rw [← hw1]; exact (Boxed.set (W := w.drewN (nq + 1)) _ (by exact ba)).kept (grownBy_setC _ B 0 _) (fun e => hB (by cases e; rfl))
  have o1 : Only (fun k => k = B ∨ k = Ba) w w1 := by rw [← hw1]; exact ((o0.drewN (nq + 1)).setCell (p := ⟨Ba, 0, none⟩) (.inl (.inr rfl)) _).setCell (p := ⟨B, 0, none⟩) (.inl (.inl rfl)) _
  clear hw1 c0 f0 fa0
  rw [rounds_succ]
  have c1 := ht1.cell1
  have f1 := ht1.free 1
  have fa1 := ba1.frozen
  go_wp2_with fail
  go_quiet (fail)
  go_wp2_with fail
  go_region_with (go_at_call 136; refine (Mix1_at 1 r b t1 y t2 Br Ba _ (by omega) hr ub ut1 Y.out T2.out (by exact br1) (by exact ba1)).mono ?_; rintro e w' ⟨rfl, rfl⟩)
  go_wp2_with fail
  obtain ⟨w2, hw2⟩ : ∃ w2, ((w1.drewN (nq + 1)).setCell ⟨Ba, 0, none⟩ (.int .u64 t2)).setCell ⟨B, 1, none⟩ (.int .u64 y) = w2 := ⟨_, rfl⟩
  rw [hw2]
  have ht2 : Trip w2 B 192 (.int .u64 x) (.int .u64 y) (.int .u64 c) := by rw [← hw2]; exact ((ht1.drewN (nq + 1)).other (p := ⟨Ba, 0, none⟩) (fun e => hB e.symm) _).set1 _
  have br2 : Boxed w2 Br 3 (.int .i64 r) := by rw [← hw2]; exact (Boxed.other (W := w1.drewN (nq + 1)) (by exact br1) hra _).kept (grownBy_setC _ B 1 _) (fun e => hBr (by cases e; rfl))
  have ba2 : Boxed w2 Ba 25 (.int .u64 t2) := by rw [← hw2]; exact (Boxed.set (W := w1.drewN (nq + 1)) _ (by exact ba1)).kept (grownBy_setC _ B 1 _) (fun e => hB (by cases e; rfl))
  have o2 : Only (fun k => k = B ∨ k = Ba) w w2 := by rw [← hw2]; exact ((o1.drewN (nq + 1)).setCell (p := ⟨Ba, 0, none⟩) (.inl (.inr rfl)) _).setCell (p := ⟨B, 1, none⟩) (.inl (.inl rfl)) _
  clear hw2 c1 f1 fa1
  rw [rounds_succ]
  have c2 := ht2.cell2
  have f2 := ht2.free 2
  have fa2 := ba2.frozen
  go_wp2_with fail
  go_quiet (fail)
  go_wp2_with fail
  go_region_with (go_at_call 136; refine (Mix1_at 2 r c t2 z t3 Br Ba _ (by omega) hr uc ut2 Z.out T3.out (by exact br2) (by exact ba2)).mono ?_; rintro e w' ⟨rfl, rfl⟩)
  go_wp2_with fail
  obtain ⟨w3, hw3⟩ : ∃ w3, ((w2.drewN (nq + 1)).setCell ⟨Ba, 0, none⟩ (.int .u64 t3)).setCell ⟨B, 2, none⟩ (.int .u64 z) = w3 := ⟨_, rfl⟩
  rw [hw3]
  have ht3 : Trip w3 B 192 (.int .u64 x) (.int .u64 y) (.int .u64 z) := by rw [← hw3]; exact ((ht2.drewN (nq + 1)).other (p := ⟨Ba, 0, none⟩) (fun e => hB e.symm) _).set2 _
  have br3 : Boxed w3 Br 3 (.int .i64 r) := by rw [← hw3]; exact (Boxed.other (W := w2.drewN (nq + 1)) (by exact br2) hra _).kept (grownBy_setC _ B 2 _) (fun e => hBr (by cases e; rfl))
  have ba3 : Boxed w3 Ba 25 (.int .u64 t3) := by rw [← hw3]; exact (Boxed.set (W := w2.drewN (nq + 1)) _ (by exact ba2)).kept (grownBy_setC _ B 2 _) (fun e => hB (by cases e; rfl))
  have o3 : Only (fun k => k = B ∨ k = Ba) w w3 := by rw [← hw3]; exact ((o2.drewN (nq + 1)).setCell (p := ⟨Ba, 0, none⟩) (.inl (.inr rfl)) _).setCell (p := ⟨B, 2, none⟩) (.inl (.inl rfl)) _
  clear hw3 c2 f2 fa2
  rw [rounds_succ]
  go_wp2_with fail
  go_end0
  exact ⟨rfl, o3, ht3, ba3⟩

set_option maxRecDepth 100000 in
set_option maxHeartbeats 2000000 in
theorem each2_any (a b c t x y z : Int) (B Ba : Nat) (w : World) (ua : U64 a) (ub : U64 b) (uc : U64 c) (ut : U64 t) (hB : B ≠ Ba) (hx : Fm.add a t = x) (hy : Fm.add b t = y) (hz : Fm.add c t = z)
    (ht : Trip w B 192 (.int .u64 a) (.int .u64 b) (.int .u64 c)) (ba : Boxed w Ba 25 (.int .u64 t)) :
    Calls Tryz.prog 135 #[.pointer (some ⟨B, 0, none⟩), .func (.func 138) #[] #[.pointer (some ⟨Ba, 0, none⟩)]] w fun e w' =>
      e = .returned (.tuple #[]) ∧ Only (fun k => k = B) w w' ∧ Trip w' B 192 (.int .u64 x) (.int .u64 y) (.int .u64 z) := by
  have X := Lib.hid hx; have Y := Lib.hid hy; have Z := Lib.hid hz
  clear hx hy hz
  have o0 := Only.refl (fun k => k = B) w
  go_enter Tryz.func135, Tryz.ntmps135
  go_wp2_with fail
  refine wp_loop_rounds 4 ?_
  rw [rounds_succ]
  have c0 := ht.cell0
  have f0 := ht.free 0
  go_wp2_with fail
  go_quiet (fail)
  go_wp2_with fail
  go_region_with (go_at_call 138; refine (Mix2_at 0 a t x Ba _ ua ut X.out (by exact ba)).mono ?_; rintro e w' ⟨rfl, rfl⟩)
  go_wp2_with fail
  obtain ⟨w1, hw1⟩ : ∃ w1, (w.drewN (nq + 1)).setCell ⟨B, 0, none⟩ (.int .u64 x) = w1 := ⟨_, rfl⟩
  rw [hw1]
  have ht1 : Trip w1 B 192 (.int .u64 x) (.int .u64 b) (.int .u64 c) := by rw [← hw1]; exact (ht.drewN (nq + 1)).set0 _
  have ba1 : Boxed w1 Ba 25 (.int .u64 t) := by rw [← hw1]; exact Boxed.kept (W := w.drewN (nq + 1)) (by exact ba) (grownBy_setC _ B 0 _) (fun e => hB (by cases e; rfl))
  have o1 : Only (fun k => k = B) w w1 := by rw [← hw1]; exact (o0.drewN (nq + 1)).setCell (p := ⟨B, 0, none⟩) (.inl rfl) _
  clear hw1 c0 f0
  rw [rounds_succ]
  have c1 := ht1.cell1
  have f1 := ht1.free 1
  go_wp2_with fail
  go_quiet (fail)
  go_wp2_with fail
  go_region_with (go_at_call 138; refine (Mix2_at 1 b t y Ba _ ub ut Y.out (by exact ba1)).mono ?_; rintro e w' ⟨rfl, rfl⟩)
  go_wp2_with fail
  obtain ⟨w2, hw2⟩ : ∃ w2, (w1.drewN (nq + 1)).setCell ⟨B, 1, none⟩ (.int .u64 y) = w2 := ⟨_, rfl⟩
  rw [hw2]
  have ht2 : Trip w2 B 192 (.int .u64 x) (.int .u64 y) (.int .u64 c) := by rw [← hw2]; exact (ht1.drewN (nq + 1)).set1 _
  have ba2 : Boxed w2 Ba 25 (.int .u64 t) := by rw [← hw2]; exact Boxed.kept (W := w1.drewN (nq + 1)) (by exact ba1) (grownBy_setC _ B 1 _) (fun e => hB (by cases e; rfl))
  have o2 : Only (fun k => k = B) w w2 := by rw [← hw2]; exact (o1.drewN (nq + 1)).setCell (p := ⟨B, 1, none⟩) (.inl rfl) _
  clear hw2 c1 f1
  rw [rounds_succ]
  have c2 := ht2.cell2
  have f2 := ht2.free 2
  go_wp2_with fail
  go_quiet (fail)
  go_wp2_with fail
  go_region_with (go_at_call 138; refine (Mix2_at 2 c t z Ba _ uc ut Z.out (by exact ba2)).mono ?_; rintro e w' ⟨rfl, rfl⟩)
  go_wp2_with fail
  obtain ⟨w3, hw3⟩ : ∃ w3, (w2.drewN (nq + 1)).setCell ⟨B, 2, none⟩ (.int .u64 z) = w3 := ⟨_, rfl⟩
  rw [hw3]
  have ht3 : Trip w3 B 192 (.int .u64 x) (.int .u64 y) (.int .u64 z) := by rw [← hw3]; exact (ht2.drewN (nq + 1)).set2 _
  have ba3 : Boxed w3 Ba 25 (.int .u64 t) := by rw [← hw3]; exact Boxed.kept (W := w2.drewN (nq + 1)) (by exact ba2) (grownBy_setC _ B 2 _) (fun e => hB (by cases e; rfl))
  have o3 : Only (fun k => k = B) w w3 := by rw [← hw3]; exact (o2.drewN (nq + 1)).setCell (p := ⟨B, 2, none⟩) (.inl rfl) _
  clear hw3 c2 f2
  rw [rounds_succ]
  go_wp2_with fail
  go_end0
  exact ⟨rfl, o3, ht3⟩

end Go.Proofs.YtlaidjgdipacgaaGreatDoor
