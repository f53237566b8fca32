/-
  The walk over math/bits.Div64 at a small divisor (printed by wip/gen_div.py).
-/
import Derived.Test.YtlaidjgdipacgaaGreatDoorWa
import Derived.Test.YtlaidjgdipacgaaGreatDoorSh2
import Derived.Test.YtlaidjgdipacgaaGreatDoorFw
namespace Go.Proofs.YtlaidjgdipacgaaGreatDoor
open Go.RowKit

set_option maxRecDepth 100000 in
theorem LeadingZeros64_any (x : Int) (w : World) (L : Nat) (hL : Lib.bitLen x.toNat = L) (h64 : L ≤ 64) (h0 : 0 ≤ x) (h1 : x ≤ 18446744073709551615) :
    Calls Tryz.prog 119 #[.int .u64 x] w fun e w' => e = .returned (.int .i64 (64 - (L : Int))) ∧ w = w' := by
  have e : IntKind.i64.wrap (64 - (L : Int)) = 64 - (L : Int) := IntWalk.i64_in _ (by omega)
  go_enter Tryz.func119, Tryz.ntmps119
  go_wp2_with fail
  refine (Sh.bits_Len64 x _ h0 h1).mono ?_; rintro e w' ⟨rfl, rfl⟩
  rw [hL]
  go_wp2_with fail
  go_ret
  exact ⟨rfl, rfl⟩

set_option maxRecDepth 100000 in
set_option maxHeartbeats 2000000 in
theorem Div64_50 (hi lo y : Int) (w : World) (hL : Lib.bitLen y.toNat = 14) (hy : 0 < y) (hyT : y * 1125899906842624 < 18446744073709551616) (h0 : 0 ≤ hi) (hh : ¬ hi = 0) (h1 : hi < y) (l0 : 0 ≤ lo) (l1 : lo < 18446744073709551616) :
    Calls Tryz.prog 92 #[.int .u64 hi, .int .u64 lo, .int .u64 y] w fun e w' => ∃ q, e = .returned (.tuple #[.int .u64 q, .int .u64 ((hi * 18446744073709551616 + lo) % y)]) ∧ w = w' := by
  have hz : ¬ y = 0 := by omega
  have hle : ¬ y ≤ hi := by omega
  have hLZ := fun W => LeadingZeros64_any y W 14 hL (by decide) (by omega) (by omega)
  obtain ⟨Y, Y1, HT, D, u32, v, n1, n0, q1, p1, r1, x1, x2, x3, u21, q0, p0, r0, z1, z2, z3, z4, f1, f1a, f1b, ha, hb, f2, f3, f4, f5, f6, f7, f8, f9, g1, ⟨g2, g3, g4, g5⟩, g6, g7, g8, g9, i1, i2, i3, i4, i5, i6, i7, i8, i9, j1, j2, j3, j4, j5, j6, j7, j8, j9, k1⟩ :=
    Nd.facts 50 hi lo y 1125899906842624 16384 262144 (by decide) (by decide) (by decide) (by decide) (by decide) hy hyT h0 h1 l0 l1
  have c1 : ¬ 4294967296 ≤ q1 := by omega
  have c2 : ¬ 4294967296 ≤ q0 := by omega
  have d1 : 0 ≤ IntKind.u64.wrap (IntKind.u64.wrap (4294967296 * r1) + n1) := by rw [IntKind.wrap_u64]; omega
  have d0 : 0 ≤ IntKind.u64.wrap (IntKind.u64.wrap (4294967296 * r0) + n0) := by rw [IntKind.wrap_u64]; omega
  have K := Lib.hid k1
  have w1 : IntKind.u64.wrap Y = Y := by rw [IntKind.wrap_u64]; omega
  have w2 : IntKind.u64.wrap HT = HT := by rw [IntKind.wrap_u64]; omega
  clear k1 hyT h0 h1 l0 l1 hy hL
  go_enter Tryz.func92, Tryz.ntmps92
  go_wp2_with fail
  refine (hLZ _).mono ?_; rintro e w' ⟨rfl, rfl⟩
  clear hLZ
  go_wp2_with fail
  refine wp_loop_rounds 1 ?_
  rw [rounds_succ]
  go_wp2_with fail
  refine wp_loop_rounds 1 ?_
  rw [rounds_succ]
  go_wp2_with fail
  go_ret2
  exact ⟨_, by rw [← K.out]; rfl, rfl⟩

set_option maxRecDepth 100000 in
set_option maxHeartbeats 2000000 in
theorem Div64_51 (hi lo y : Int) (w : World) (hL : Lib.bitLen y.toNat = 13) (hy : 0 < y) (hyT : y * 2251799813685248 < 18446744073709551616) (h0 : 0 ≤ hi) (hh : ¬ hi = 0) (h1 : hi < y) (l0 : 0 ≤ lo) (l1 : lo < 18446744073709551616) :
    Calls Tryz.prog 92 #[.int .u64 hi, .int .u64 lo, .int .u64 y] w fun e w' => ∃ q, e = .returned (.tuple #[.int .u64 q, .int .u64 ((hi * 18446744073709551616 + lo) % y)]) ∧ w = w' := by
  have hz : ¬ y = 0 := by omega
  have hle : ¬ y ≤ hi := by omega
  have hLZ := fun W => LeadingZeros64_any y W 13 hL (by decide) (by omega) (by omega)
  obtain ⟨Y, Y1, HT, D, u32, v, n1, n0, q1, p1, r1, x1, x2, x3, u21, q0, p0, r0, z1, z2, z3, z4, f1, f1a, f1b, ha, hb, f2, f3, f4, f5, f6, f7, f8, f9, g1, ⟨g2, g3, g4, g5⟩, g6, g7, g8, g9, i1, i2, i3, i4, i5, i6, i7, i8, i9, j1, j2, j3, j4, j5, j6, j7, j8, j9, k1⟩ :=
    Nd.facts 51 hi lo y 2251799813685248 8192 524288 (by decide) (by decide) (by decide) (by decide) (by decide) hy hyT h0 h1 l0 l1
  have c1 : ¬ 4294967296 ≤ q1 := by omega
  have c2 : ¬ 4294967296 ≤ q0 := by omega
  have d1 : 0 ≤ IntKind.u64.wrap (IntKind.u64.wrap (4294967296 * r1) + n1) := by rw [IntKind.wrap_u64]; omega
  have d0 : 0 ≤ IntKind.u64.wrap (IntKind.u64.wrap (4294967296 * r0) + n0) := by rw [IntKind.wrap_u64]; omega
  have K := Lib.hid k1
  have w1 : IntKind.u64.wrap Y = Y := by rw [IntKind.wrap_u64]; omega
  have w2 : IntKind.u64.wrap HT = HT := by rw [IntKind.wrap_u64]; omega
  clear k1 hyT h0 h1 l0 l1 hy hL
  go_enter Tryz.func92, Tryz.ntmps92
  go_wp2_with fail
  refine (hLZ _).mono ?_; rintro e w' ⟨rfl, rfl⟩
  clear hLZ
  go_wp2_with fail
  refine wp_loop_rounds 1 ?_
  rw [rounds_succ]
  go_wp2_with fail
  refine wp_loop_rounds 1 ?_
  rw [rounds_succ]
  go_wp2_with fail
  go_ret2
  exact ⟨_, by rw [← K.out]; rfl, rfl⟩

set_option maxRecDepth 100000 in
set_option maxHeartbeats 2000000 in
theorem Div64_52 (hi lo y : Int) (w : World) (hL : Lib.bitLen y.toNat = 12) (hy : 0 < y) (hyT : y * 4503599627370496 < 18446744073709551616) (h0 : 0 ≤ hi) (hh : ¬ hi = 0) (h1 : hi < y) (l0 : 0 ≤ lo) (l1 : lo < 18446744073709551616) :
    Calls Tryz.prog 92 #[.int .u64 hi, .int .u64 lo, .int .u64 y] w fun e w' => ∃ q, e = .returned (.tuple #[.int .u64 q, .int .u64 ((hi * 18446744073709551616 + lo) % y)]) ∧ w = w' := by
  have hz : ¬ y = 0 := by omega
  have hle : ¬ y ≤ hi := by omega
  have hLZ := fun W => LeadingZeros64_any y W 12 hL (by decide) (by omega) (by omega)
  obtain ⟨Y, Y1, HT, D, u32, v, n1, n0, q1, p1, r1, x1, x2, x3, u21, q0, p0, r0, z1, z2, z3, z4, f1, f1a, f1b, ha, hb, f2, f3, f4, f5, f6, f7, f8, f9, g1, ⟨g2, g3, g4, g5⟩, g6, g7, g8, g9, i1, i2, i3, i4, i5, i6, i7, i8, i9, j1, j2, j3, j4, j5, j6, j7, j8, j9, k1⟩ :=
    Nd.facts 52 hi lo y 4503599627370496 4096 1048576 (by decide) (by decide) (by decide) (by decide) (by decide) hy hyT h0 h1 l0 l1
  have c1 : ¬ 4294967296 ≤ q1 := by omega
  have c2 : ¬ 4294967296 ≤ q0 := by omega
  have d1 : 0 ≤ IntKind.u64.wrap (IntKind.u64.wrap (4294967296 * r1) + n1) := by rw [IntKind.wrap_u64]; omega
  have d0 : 0 ≤ IntKind.u64.wrap (IntKind.u64.wrap (4294967296 * r0) + n0) := by rw [IntKind.wrap_u64]; omega
  have K := Lib.hid k1
  have w1 : IntKind.u64.wrap Y = Y := by rw [IntKind.wrap_u64]; omega
  have w2 : IntKind.u64.wrap HT = HT := by rw [IntKind.wrap_u64]; omega
  clear k1 hyT h0 h1 l0 l1 hy hL
  go_enter Tryz.func92, Tryz.ntmps92
  go_wp2_with fail
  refine (hLZ _).mono ?_; rintro e w' ⟨rfl, rfl⟩
  clear hLZ
  go_wp2_with fail
  refine wp_loop_rounds 1 ?_
  rw [rounds_succ]
  go_wp2_with fail
  refine wp_loop_rounds 1 ?_
  rw [rounds_succ]
  go_wp2_with fail
  go_ret2
  exact ⟨_, by rw [← K.out]; rfl, rfl⟩

set_option maxRecDepth 100000 in
set_option maxHeartbeats 2000000 in
theorem Div64_53 (hi lo y : Int) (w : World) (hL : Lib.bitLen y.toNat = 11) (hy : 0 < y) (hyT : y * 9007199254740992 < 18446744073709551616) (h0 : 0 ≤ hi) (hh : ¬ hi = 0) (h1 : hi < y) (l0 : 0 ≤ lo) (l1 : lo < 18446744073709551616) :
    Calls Tryz.prog 92 #[.int .u64 hi, .int .u64 lo, .int .u64 y] w fun e w' => ∃ q, e = .returned (.tuple #[.int .u64 q, .int .u64 ((hi * 18446744073709551616 + lo) % y)]) ∧ w = w' := by
  have hz : ¬ y = 0 := by omega
  have hle : ¬ y ≤ hi := by omega
  have hLZ := fun W => LeadingZeros64_any y W 11 hL (by decide) (by omega) (by omega)
  obtain ⟨Y, Y1, HT, D, u32, v, n1, n0, q1, p1, r1, x1, x2, x3, u21, q0, p0, r0, z1, z2, z3, z4, f1, f1a, f1b, ha, hb, f2, f3, f4, f5, f6, f7, f8, f9, g1, ⟨g2, g3, g4, g5⟩, g6, g7, g8, g9, i1, i2, i3, i4, i5, i6, i7, i8, i9, j1, j2, j3, j4, j5, j6, j7, j8, j9, k1⟩ :=
    Nd.facts 53 hi lo y 9007199254740992 2048 2097152 (by decide) (by decide) (by decide) (by decide) (by decide) hy hyT h0 h1 l0 l1
  have c1 : ¬ 4294967296 ≤ q1 := by omega
  have c2 : ¬ 4294967296 ≤ q0 := by omega
  have d1 : 0 ≤ IntKind.u64.wrap (IntKind.u64.wrap (4294967296 * r1) + n1) := by rw [IntKind.wrap_u64]; omega
  have d0 : 0 ≤ IntKind.u64.wrap (IntKind.u64.wrap (4294967296 * r0) + n0) := by rw [IntKind.wrap_u64]; omega
  have K := Lib.hid k1
  have w1 : IntKind.u64.wrap Y = Y := by rw [IntKind.wrap_u64]; omega
  have w2 : IntKind.u64.wrap HT = HT := by rw [IntKind.wrap_u64]; omega
  clear k1 hyT h0 h1 l0 l1 hy hL
  go_enter Tryz.func92, Tryz.ntmps92
  go_wp2_with fail
  refine (hLZ _).mono ?_; rintro e w' ⟨rfl, rfl⟩
  clear hLZ
  go_wp2_with fail
  refine wp_loop_rounds 1 ?_
  rw [rounds_succ]
  go_wp2_with fail
  refine wp_loop_rounds 1 ?_
  rw [rounds_succ]
  go_wp2_with fail
  go_ret2
  exact ⟨_, by rw [← K.out]; rfl, rfl⟩

set_option maxRecDepth 100000 in
set_option maxHeartbeats 2000000 in
theorem Div64_54 (hi lo y : Int) (w : World) (hL : Lib.bitLen y.toNat = 10) (hy : 0 < y) (hyT : y * 18014398509481984 < 18446744073709551616) (h0 : 0 ≤ hi) (hh : ¬ hi = 0) (h1 : hi < y) (l0 : 0 ≤ lo) (l1 : lo < 18446744073709551616) :
    Calls Tryz.prog 92 #[.int .u64 hi, .int .u64 lo, .int .u64 y] w fun e w' => ∃ q, e = .returned (.tuple #[.int .u64 q, .int .u64 ((hi * 18446744073709551616 + lo) % y)]) ∧ w = w' := by
  have hz : ¬ y = 0 := by omega
  have hle : ¬ y ≤ hi := by omega
  have hLZ := fun W => LeadingZeros64_any y W 10 hL (by decide) (by omega) (by omega)
  obtain ⟨Y, Y1, HT, D, u32, v, n1, n0, q1, p1, r1, x1, x2, x3, u21, q0, p0, r0, z1, z2, z3, z4, f1, f1a, f1b, ha, hb, f2, f3, f4, f5, f6, f7, f8, f9, g1, ⟨g2, g3, g4, g5⟩, g6, g7, g8, g9, i1, i2, i3, i4, i5, i6, i7, i8, i9, j1, j2, j3, j4, j5, j6, j7, j8, j9, k1⟩ :=
    Nd.facts 54 hi lo y 18014398509481984 1024 4194304 (by decide) (by decide) (by decide) (by decide) (by decide) hy hyT h0 h1 l0 l1
  have c1 : ¬ 4294967296 ≤ q1 := by omega
  have c2 : ¬ 4294967296 ≤ q0 := by omega
  have d1 : 0 ≤ IntKind.u64.wrap (IntKind.u64.wrap (4294967296 * r1) + n1) := by rw [IntKind.wrap_u64]; omega
  have d0 : 0 ≤ IntKind.u64.wrap (IntKind.u64.wrap (4294967296 * r0) + n0) := by rw [IntKind.wrap_u64]; omega
  have K := Lib.hid k1
  have w1 : IntKind.u64.wrap Y = Y := by rw [IntKind.wrap_u64]; omega
  have w2 : IntKind.u64.wrap HT = HT := by rw [IntKind.wrap_u64]; omega
  clear k1 hyT h0 h1 l0 l1 hy hL
  go_enter Tryz.func92, Tryz.ntmps92
  go_wp2_with fail
  refine (hLZ _).mono ?_; rintro e w' ⟨rfl, rfl⟩
  clear hLZ
  go_wp2_with fail
  refine wp_loop_rounds 1 ?_
  rw [rounds_succ]
  go_wp2_with fail
  refine wp_loop_rounds 1 ?_
  rw [rounds_succ]
  go_wp2_with fail
  go_ret2
  exact ⟨_, by rw [← K.out]; rfl, rfl⟩

set_option maxRecDepth 100000 in
set_option maxHeartbeats 2000000 in
theorem Div64_55 (hi lo y : Int) (w : World) (hL : Lib.bitLen y.toNat = 9) (hy : 0 < y) (hyT : y * 36028797018963968 < 18446744073709551616) (h0 : 0 ≤ hi) (hh : ¬ hi = 0) (h1 : hi < y) (l0 : 0 ≤ lo) (l1 : lo < 18446744073709551616) :
    Calls Tryz.prog 92 #[.int .u64 hi, .int .u64 lo, .int .u64 y] w fun e w' => ∃ q, e = .returned (.tuple #[.int .u64 q, .int .u64 ((hi * 18446744073709551616 + lo) % y)]) ∧ w = w' := by
  have hz : ¬ y = 0 := by omega
  have hle : ¬ y ≤ hi := by omega
  have hLZ := fun W => LeadingZeros64_any y W 9 hL (by decide) (by omega) (by omega)
  obtain ⟨Y, Y1, HT, D, u32, v, n1, n0, q1, p1, r1, x1, x2, x3, u21, q0, p0, r0, z1, z2, z3, z4, f1, f1a, f1b, ha, hb, f2, f3, f4, f5, f6, f7, f8, f9, g1, ⟨g2, g3, g4, g5⟩, g6, g7, g8, g9, i1, i2, i3, i4, i5, i6, i7, i8, i9, j1, j2, j3, j4, j5, j6, j7, j8, j9, k1⟩ :=
    Nd.facts 55 hi lo y 36028797018963968 512 8388608 (by decide) (by decide) (by decide) (by decide) (by decide) hy hyT h0 h1 l0 l1
  have c1 : ¬ 4294967296 ≤ q1 := by omega
  have c2 : ¬ 4294967296 ≤ q0 := by omega
  have d1 : 0 ≤ IntKind.u64.wrap (IntKind.u64.wrap (4294967296 * r1) + n1) := by rw [IntKind.wrap_u64]; omega
  have d0 : 0 ≤ IntKind.u64.wrap (IntKind.u64.wrap (4294967296 * r0) + n0) := by rw [IntKind.wrap_u64]; omega
  have K := Lib.hid k1
  have w1 : IntKind.u64.wrap Y = Y := by rw [IntKind.wrap_u64]; omega
  have w2 : IntKind.u64.wrap HT = HT := by rw [IntKind.wrap_u64]; omega
  clear k1 hyT h0 h1 l0 l1 hy hL
  go_enter Tryz.func92, Tryz.ntmps92
  go_wp2_with fail
  refine (hLZ _).mono ?_; rintro e w' ⟨rfl, rfl⟩
  clear hLZ
  go_wp2_with fail
  refine wp_loop_rounds 1 ?_
  rw [rounds_succ]
  go_wp2_with fail
  refine wp_loop_rounds 1 ?_
  rw [rounds_succ]
  go_wp2_with fail
  go_ret2
  exact ⟨_, by rw [← K.out]; rfl, rfl⟩

set_option maxRecDepth 100000 in
set_option maxHeartbeats 2000000 in
theorem Div64_56 (hi lo y : Int) (w : World) (hL : Lib.bitLen y.toNat = 8) (hy : 0 < y) (hyT : y * 72057594037927936 < 18446744073709551616) (h0 : 0 ≤ hi) (hh : ¬ hi = 0) (h1 : hi < y) (l0 : 0 ≤ lo) (l1 : lo < 18446744073709551616) :
    Calls Tryz.prog 92 #[.int .u64 hi, .int .u64 lo, .int .u64 y] w fun e w' => ∃ q, e = .returned (.tuple #[.int .u64 q, .int .u64 ((hi * 18446744073709551616 + lo) % y)]) ∧ w = w' := by
  have hz : ¬ y = 0 := by omega
  have hle : ¬ y ≤ hi := by omega
  have hLZ := fun W => LeadingZeros64_any y W 8 hL (by decide) (by omega) (by omega)
  obtain ⟨Y, Y1, HT, D, u32, v, n1, n0, q1, p1, r1, x1, x2, x3, u21, q0, p0, r0, z1, z2, z3, z4, f1, f1a, f1b, ha, hb, f2, f3, f4, f5, f6, f7, f8, f9, g1, ⟨g2, g3, g4, g5⟩, g6, g7, g8, g9, i1, i2, i3, i4, i5, i6, i7, i8, i9, j1, j2, j3, j4, j5, j6, j7, j8, j9, k1⟩ :=
    Nd.facts 56 hi lo y 72057594037927936 256 16777216 (by decide) (by decide) (by decide) (by decide) (by decide) hy hyT h0 h1 l0 l1
  have c1 : ¬ 4294967296 ≤ q1 := by omega
  have c2 : ¬ 4294967296 ≤ q0 := by omega
  have d1 : 0 ≤ IntKind.u64.wrap (IntKind.u64.wrap (4294967296 * r1) + n1) := by rw [IntKind.wrap_u64]; omega
  have d0 : 0 ≤ IntKind.u64.wrap (IntKind.u64.wrap (4294967296 * r0) + n0) := by rw [IntKind.wrap_u64]; omega
  have K := Lib.hid k1
  have w1 : IntKind.u64.wrap Y = Y := by rw [IntKind.wrap_u64]; omega
  have w2 : IntKind.u64.wrap HT = HT := by rw [IntKind.wrap_u64]; omega
  clear k1 hyT h0 h1 l0 l1 hy hL
  go_enter Tryz.func92, Tryz.ntmps92
  go_wp2_with fail
  refine (hLZ _).mono ?_; rintro e w' ⟨rfl, rfl⟩
  clear hLZ
  go_wp2_with fail
  refine wp_loop_rounds 1 ?_
  rw [rounds_succ]
  go_wp2_with fail
  refine wp_loop_rounds 1 ?_
  rw [rounds_succ]
  go_wp2_with fail
  go_ret2
  exact ⟨_, by rw [← K.out]; rfl, rfl⟩

set_option maxRecDepth 100000 in
set_option maxHeartbeats 2000000 in
theorem Div64_57 (hi lo y : Int) (w : World) (hL : Lib.bitLen y.toNat = 7) (hy : 0 < y) (hyT : y * 144115188075855872 < 18446744073709551616) (h0 : 0 ≤ hi) (hh : ¬ hi = 0) (h1 : hi < y) (l0 : 0 ≤ lo) (l1 : lo < 18446744073709551616) :
    Calls Tryz.prog 92 #[.int .u64 hi, .int .u64 lo, .int .u64 y] w fun e w' => ∃ q, e = .returned (.tuple #[.int .u64 q, .int .u64 ((hi * 18446744073709551616 + lo) % y)]) ∧ w = w' := by
  have hz : ¬ y = 0 := by omega
  have hle : ¬ y ≤ hi := by omega
  have hLZ := fun W => LeadingZeros64_any y W 7 hL (by decide) (by omega) (by omega)
  obtain ⟨Y, Y1, HT, D, u32, v, n1, n0, q1, p1, r1, x1, x2, x3, u21, q0, p0, r0, z1, z2, z3, z4, f1, f1a, f1b, ha, hb, f2, f3, f4, f5, f6, f7, f8, f9, g1, ⟨g2, g3, g4, g5⟩, g6, g7, g8, g9, i1, i2, i3, i4, i5, i6, i7, i8, i9, j1, j2, j3, j4, j5, j6, j7, j8, j9, k1⟩ :=
    Nd.facts 57 hi lo y 144115188075855872 128 33554432 (by decide) (by decide) (by decide) (by decide) (by decide) hy hyT h0 h1 l0 l1
  have c1 : ¬ 4294967296 ≤ q1 := by omega
  have c2 : ¬ 4294967296 ≤ q0 := by omega
  have d1 : 0 ≤ IntKind.u64.wrap (IntKind.u64.wrap (4294967296 * r1) + n1) := by rw [IntKind.wrap_u64]; omega
  have d0 : 0 ≤ IntKind.u64.wrap (IntKind.u64.wrap (4294967296 * r0) + n0) := by rw [IntKind.wrap_u64]; omega
  have K := Lib.hid k1
  have w1 : IntKind.u64.wrap Y = Y := by rw [IntKind.wrap_u64]; omega
  have w2 : IntKind.u64.wrap HT = HT := by rw [IntKind.wrap_u64]; omega
  clear k1 hyT h0 h1 l0 l1 hy hL
  go_enter Tryz.func92, Tryz.ntmps92
  go_wp2_with fail
  refine (hLZ _).mono ?_; rintro e w' ⟨rfl, rfl⟩
  clear hLZ
  go_wp2_with fail
  refine wp_loop_rounds 1 ?_
  rw [rounds_succ]
  go_wp2_with fail
  refine wp_loop_rounds 1 ?_
  rw [rounds_succ]
  go_wp2_with fail
  go_ret2
  exact ⟨_, by rw [← K.out]; rfl, rfl⟩

set_option maxRecDepth 100000 in
set_option maxHeartbeats 2000000 in
theorem Div64_58 (hi lo y : Int) (w : World) (hL : Lib.bitLen y.toNat = 6) (hy : 0 < y) (hyT : y * 288230376151711744 < 18446744073709551616) (h0 : 0 ≤ hi) (hh : ¬ hi = 0) (h1 : hi < y) (l0 : 0 ≤ lo) (l1 : lo < 18446744073709551616) :
    Calls Tryz.prog 92 #[.int .u64 hi, .int .u64 lo, .int .u64 y] w fun e w' => ∃ q, e = .returned (.tuple #[.int .u64 q, .int .u64 ((hi * 18446744073709551616 + lo) % y)]) ∧ w = w' := by
  have hz : ¬ y = 0 := by omega
  have hle : ¬ y ≤ hi := by omega
  have hLZ := fun W => LeadingZeros64_any y W 6 hL (by decide) (by omega) (by omega)
  obtain ⟨Y, Y1, HT, D, u32, v, n1, n0, q1, p1, r1, x1, x2, x3, u21, q0, p0, r0, z1, z2, z3, z4, f1, f1a, f1b, ha, hb, f2, f3, f4, f5, f6, f7, f8, f9, g1, ⟨g2, g3, g4, g5⟩, g6, g7, g8, g9, i1, i2, i3, i4, i5, i6, i7, i8, i9, j1, j2, j3, j4, j5, j6, j7, j8, j9, k1⟩ :=
    Nd.facts 58 hi lo y 288230376151711744 64 67108864 (by decide) (by decide) (by decide) (by decide) (by decide) hy hyT h0 h1 l0 l1
  have c1 : ¬ 4294967296 ≤ q1 := by omega
  have c2 : ¬ 4294967296 ≤ q0 := by omega
  have d1 : 0 ≤ IntKind.u64.wrap (IntKind.u64.wrap (4294967296 * r1) + n1) := by rw [IntKind.wrap_u64]; omega
  have d0 : 0 ≤ IntKind.u64.wrap (IntKind.u64.wrap (4294967296 * r0) + n0) := by rw [IntKind.wrap_u64]; omega
  have K := Lib.hid k1
  have w1 : IntKind.u64.wrap Y = Y := by rw [IntKind.wrap_u64]; omega
  have w2 : IntKind.u64.wrap HT = HT := by rw [IntKind.wrap_u64]; omega
  clear k1 hyT h0 h1 l0 l1 hy hL
  go_enter Tryz.func92, Tryz.ntmps92
  go_wp2_with fail
  refine (hLZ _).mono ?_; rintro e w' ⟨rfl, rfl⟩
  clear hLZ
  go_wp2_with fail
  refine wp_loop_rounds 1 ?_
  rw [rounds_succ]
  go_wp2_with fail
  refine wp_loop_rounds 1 ?_
  rw [rounds_succ]
  go_wp2_with fail
  go_ret2
  exact ⟨_, by rw [← K.out]; rfl, rfl⟩

set_option maxRecDepth 100000 in
set_option maxHeartbeats 2000000 in
theorem Div64_59 (hi lo y : Int) (w : World) (hL : Lib.bitLen y.toNat = 5) (hy : 0 < y) (hyT : y * 576460752303423488 < 18446744073709551616) (h0 : 0 ≤ hi) (hh : ¬ hi = 0) (h1 : hi < y) (l0 : 0 ≤ lo) (l1 : lo < 18446744073709551616) :
    Calls Tryz.prog 92 #[.int .u64 hi, .int .u64 lo, .int .u64 y] w fun e w' => ∃ q, e = .returned (.tuple #[.int .u64 q, .int .u64 ((hi * 18446744073709551616 + lo) % y)]) ∧ w = w' := by
  have hz : ¬ y = 0 := by omega
  have hle : ¬ y ≤ hi := by omega
  have hLZ := fun W => LeadingZeros64_any y W 5 hL (by decide) (by omega) (by omega)
  obtain ⟨Y, Y1, HT, D, u32, v, n1, n0, q1, p1, r1, x1, x2, x3, u21, q0, p0, r0, z1, z2, z3, z4, f1, f1a, f1b, ha, hb, f2, f3, f4, f5, f6, f7, f8, f9, g1, ⟨g2, g3, g4, g5⟩, g6, g7, g8, g9, i1, i2, i3, i4, i5, i6, i7, i8, i9, j1, j2, j3, j4, j5, j6, j7, j8, j9, k1⟩ :=
    Nd.facts 59 hi lo y 576460752303423488 32 134217728 (by decide) (by decide) (by decide) (by decide) (by decide) hy hyT h0 h1 l0 l1
  have c1 : ¬ 4294967296 ≤ q1 := by omega
  have c2 : ¬ 4294967296 ≤ q0 := by omega
  have d1 : 0 ≤ IntKind.u64.wrap (IntKind.u64.wrap (4294967296 * r1) + n1) := by rw [IntKind.wrap_u64]; omega
  have d0 : 0 ≤ IntKind.u64.wrap (IntKind.u64.wrap (4294967296 * r0) + n0) := by rw [IntKind.wrap_u64]; omega
  have K := Lib.hid k1
  have w1 : IntKind.u64.wrap Y = Y := by rw [IntKind.wrap_u64]; omega
  have w2 : IntKind.u64.wrap HT = HT := by rw [IntKind.wrap_u64]; omega
  clear k1 hyT h0 h1 l0 l1 hy hL
  go_enter Tryz.func92, Tryz.ntmps92
  go_wp2_with fail
  refine (hLZ _).mono ?_; rintro e w' ⟨rfl, rfl⟩
  clear hLZ
  go_wp2_with fail
  refine wp_loop_rounds 1 ?_
  rw [rounds_succ]
  go_wp2_with fail
  refine wp_loop_rounds 1 ?_
  rw [rounds_succ]
  go_wp2_with fail
  go_ret2
  exact ⟨_, by rw [← K.out]; rfl, rfl⟩

set_option maxRecDepth 100000 in
set_option maxHeartbeats 2000000 in
theorem Div64_60 (hi lo y : Int) (w : World) (hL : Lib.bitLen y.toNat = 4) (hy : 0 < y) (hyT : y * 1152921504606846976 < 18446744073709551616) (h0 : 0 ≤ hi) (hh : ¬ hi = 0) (h1 : hi < y) (l0 : 0 ≤ lo) (l1 : lo < 18446744073709551616) :
    Calls Tryz.prog 92 #[.int .u64 hi, .int .u64 lo, .int .u64 y] w fun e w' => ∃ q, e = .returned (.tuple #[.int .u64 q, .int .u64 ((hi * 18446744073709551616 + lo) % y)]) ∧ w = w' := by
  have hz : ¬ y = 0 := by omega
  have hle : ¬ y ≤ hi := by omega
  have hLZ := fun W => LeadingZeros64_any y W 4 hL (by decide) (by omega) (by omega)
  obtain ⟨Y, Y1, HT, D, u32, v, n1, n0, q1, p1, r1, x1, x2, x3, u21, q0, p0, r0, z1, z2, z3, z4, f1, f1a, f1b, ha, hb, f2, f3, f4, f5, f6, f7, f8, f9, g1, ⟨g2, g3, g4, g5⟩, g6, g7, g8, g9, i1, i2, i3, i4, i5, i6, i7, i8, i9, j1, j2, j3, j4, j5, j6, j7, j8, j9, k1⟩ :=
    Nd.facts 60 hi lo y 1152921504606846976 16 268435456 (by decide) (by decide) (by decide) (by decide) (by decide) hy hyT h0 h1 l0 l1
  have c1 : ¬ 4294967296 ≤ q1 := by omega
  have c2 : ¬ 4294967296 ≤ q0 := by omega
  have d1 : 0 ≤ IntKind.u64.wrap (IntKind.u64.wrap (4294967296 * r1) + n1) := by rw [IntKind.wrap_u64]; omega
  have d0 : 0 ≤ IntKind.u64.wrap (IntKind.u64.wrap (4294967296 * r0) + n0) := by rw [IntKind.wrap_u64]; omega
  have K := Lib.hid k1
  have w1 : IntKind.u64.wrap Y = Y := by rw [IntKind.wrap_u64]; omega
  have w2 : IntKind.u64.wrap HT = HT := by rw [IntKind.wrap_u64]; omega
  clear k1 hyT h0 h1 l0 l1 hy hL
  go_enter Tryz.func92, Tryz.ntmps92
  go_wp2_with fail
  refine (hLZ _).mono ?_; rintro e w' ⟨rfl, rfl⟩
  clear hLZ
  go_wp2_with fail
  refine wp_loop_rounds 1 ?_
  rw [rounds_succ]
  go_wp2_with fail
  refine wp_loop_rounds 1 ?_
  rw [rounds_succ]
  go_wp2_with fail
  go_ret2
  exact ⟨_, by rw [← K.out]; rfl, rfl⟩

theorem len_14 (x : Nat) (h1 : 8192 ≤ x) (h2 : x < 16384) : Lib.bitLen x = 14 := by rw [Lib.bitLen_shift 13 x h1 (by omega), show x / 2 ^ 13 = 1 by omega]; rfl
theorem len_13 (x : Nat) (h1 : 4096 ≤ x) (h2 : x < 8192) : Lib.bitLen x = 13 := by rw [Lib.bitLen_shift 12 x h1 (by omega), show x / 2 ^ 12 = 1 by omega]; rfl
theorem len_12 (x : Nat) (h1 : 2048 ≤ x) (h2 : x < 4096) : Lib.bitLen x = 12 := by rw [Lib.bitLen_shift 11 x h1 (by omega), show x / 2 ^ 11 = 1 by omega]; rfl
theorem len_11 (x : Nat) (h1 : 1024 ≤ x) (h2 : x < 2048) : Lib.bitLen x = 11 := by rw [Lib.bitLen_shift 10 x h1 (by omega), show x / 2 ^ 10 = 1 by omega]; rfl
theorem len_10 (x : Nat) (h1 : 512 ≤ x) (h2 : x < 1024) : Lib.bitLen x = 10 := by rw [Lib.bitLen_shift 9 x h1 (by omega), show x / 2 ^ 9 = 1 by omega]; rfl
theorem len_9 (x : Nat) (h1 : 256 ≤ x) (h2 : x < 512) : Lib.bitLen x = 9 := by rw [Lib.bitLen_shift 8 x h1 (by omega), show x / 2 ^ 8 = 1 by omega]; rfl
theorem len_8 (x : Nat) (h1 : 128 ≤ x) (h2 : x < 256) : Lib.bitLen x = 8 := by rw [Lib.bitLen_shift 7 x h1 (by omega), show x / 2 ^ 7 = 1 by omega]; rfl
theorem len_7 (x : Nat) (h1 : 64 ≤ x) (h2 : x < 128) : Lib.bitLen x = 7 := by rw [Lib.bitLen_shift 6 x h1 (by omega), show x / 2 ^ 6 = 1 by omega]; rfl
theorem len_6 (x : Nat) (h1 : 32 ≤ x) (h2 : x < 64) : Lib.bitLen x = 6 := by rw [Lib.bitLen_shift 5 x h1 (by omega), show x / 2 ^ 5 = 1 by omega]; rfl
theorem len_5 (x : Nat) (h1 : 16 ≤ x) (h2 : x < 32) : Lib.bitLen x = 5 := by rw [Lib.bitLen_shift 4 x h1 (by omega), show x / 2 ^ 4 = 1 by omega]; rfl
theorem len_4 (x : Nat) (h1 : 8 ≤ x) (h2 : x < 16) : Lib.bitLen x = 4 := by rw [Lib.bitLen_shift 3 x h1 (by omega), show x / 2 ^ 3 = 1 by omega]; rfl

theorem Div64_small (hi lo y : Int) (w : World) (hy : 8 ≤ y) (hy2 : y ≤ 8192) (h0 : 0 ≤ hi) (h1 : hi < y) (l0 : 0 ≤ lo) (l1 : lo < 18446744073709551616) :
    Calls Tryz.prog 92 #[.int .u64 hi, .int .u64 lo, .int .u64 y] w fun e w' => ∃ q, e = .returned (.tuple #[.int .u64 q, .int .u64 ((hi * 18446744073709551616 + lo) % y)]) ∧ Below w.heap.size w w' := by
  by_cases hh : hi = 0
  · subst hh
    have hz : ¬ y = 0 := by omega
    have hle : ¬ y ≤ 0 := by omega
    have e1 : lo.tmod y = (0 * 18446744073709551616 + lo) % y := by rw [Int.tmod_eq_emod_of_nonneg l0]; simp
    have r0 := Int.emod_nonneg (0 * 18446744073709551616 + lo) hz
    have r1 := Int.emod_lt_of_pos (0 * 18446744073709551616 + lo) (show 0 < y by omega)
    obtain ⟨r, hr⟩ : ∃ r, (0 * 18446744073709551616 + lo) % y = r := ⟨_, rfl⟩
    rw [hr] at e1 r0 r1 ⊢
    have e2 : IntKind.u64.wrap r = r := by rw [IntKind.wrap_u64]; omega
    clear hr l0 l1 h0 h1
    go_enter Tryz.func92, Tryz.ntmps92
    go_wp2_with fail
    go_region
    all_goals
      go_wp2_with fail
      go_ret2
      exact ⟨_, rfl, (Below.refl _ _).drew⟩
  · obtain ⟨n, rfl⟩ : ∃ n : Nat, y = n := ⟨y.toNat, by omega⟩
    have hc : (8 ≤ n ∧ n < 16) ∨ (16 ≤ n ∧ n < 32) ∨ (32 ≤ n ∧ n < 64) ∨ (64 ≤ n ∧ n < 128) ∨ (128 ≤ n ∧ n < 256) ∨ (256 ≤ n ∧ n < 512) ∨ (512 ≤ n ∧ n < 1024) ∨ (1024 ≤ n ∧ n < 2048) ∨ (2048 ≤ n ∧ n < 4096) ∨ (4096 ≤ n ∧ n < 8192) ∨ (8192 ≤ n ∧ n < 16384) := by omega
    have fin : ∀ {R : Calls Tryz.prog 92 #[.int .u64 hi, .int .u64 lo, .int .u64 (n : Int)] w fun e w' => ∃ q, e = .returned (.tuple #[.int .u64 q, .int .u64 ((hi * 18446744073709551616 + lo) % (n : Int))]) ∧ w = w'}, Calls Tryz.prog 92 #[.int .u64 hi, .int .u64 lo, .int .u64 (n : Int)] w fun e w' => ∃ q, e = .returned (.tuple #[.int .u64 q, .int .u64 ((hi * 18446744073709551616 + lo) % (n : Int))]) ∧ Below w.heap.size w w' := by
      intro R
      exact R.mono fun e w' ⟨q, he, hw⟩ => ⟨q, he, hw ▸ Below.refl _ _⟩
    apply fin
    rcases hc with ⟨c1, c2⟩ | ⟨c1, c2⟩ | ⟨c1, c2⟩ | ⟨c1, c2⟩ | ⟨c1, c2⟩ | ⟨c1, c2⟩ | ⟨c1, c2⟩ | ⟨c1, c2⟩ | ⟨c1, c2⟩ | ⟨c1, c2⟩ | ⟨c1, c2⟩
    · exact Div64_60 hi lo n w (by rw [Int.toNat_natCast]; exact len_4 n c1 c2) (by omega) (by omega) h0 hh h1 l0 l1
    · exact Div64_59 hi lo n w (by rw [Int.toNat_natCast]; exact len_5 n c1 c2) (by omega) (by omega) h0 hh h1 l0 l1
    · exact Div64_58 hi lo n w (by rw [Int.toNat_natCast]; exact len_6 n c1 c2) (by omega) (by omega) h0 hh h1 l0 l1
    · exact Div64_57 hi lo n w (by rw [Int.toNat_natCast]; exact len_7 n c1 c2) (by omega) (by omega) h0 hh h1 l0 l1
    · exact Div64_56 hi lo n w (by rw [Int.toNat_natCast]; exact len_8 n c1 c2) (by omega) (by omega) h0 hh h1 l0 l1
    · exact Div64_55 hi lo n w (by rw [Int.toNat_natCast]; exact len_9 n c1 c2) (by omega) (by omega) h0 hh h1 l0 l1
    · exact Div64_54 hi lo n w (by rw [Int.toNat_natCast]; exact len_10 n c1 c2) (by omega) (by omega) h0 hh h1 l0 l1
    · exact Div64_53 hi lo n w (by rw [Int.toNat_natCast]; exact len_11 n c1 c2) (by omega) (by omega) h0 hh h1 l0 l1
    · exact Div64_52 hi lo n w (by rw [Int.toNat_natCast]; exact len_12 n c1 c2) (by omega) (by omega) h0 hh h1 l0 l1
    · exact Div64_51 hi lo n w (by rw [Int.toNat_natCast]; exact len_13 n c1 c2) (by omega) (by omega) h0 hh h1 l0 l1
    · exact Div64_50 hi lo n w (by rw [Int.toNat_natCast]; exact len_14 n c1 c2) (by omega) (by omega) h0 hh h1 l0 l1

end Go.Proofs.YtlaidjgdipacgaaGreatDoor
