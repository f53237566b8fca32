/-
  The division of two words by one, and the number of a hash: no program in sight.
-/
import Derived.Test.YtfdchdnkblmijaaGreatDoorFb
namespace Go.Proofs.YtfdchdnkblmijaaGreatDoor.Nd
open Go Go.Proofs.YtfdchdnkblmijaaGreatDoor

theorem rem (n y T Y1 q1 r1 q0 r0 u32 un1 un0 : Int) (hT : 0 < T) (hN : n * T = u32 * 18446744073709551616 + un1 * 4294967296 + un0) (h1 : u32 = q1 * Y1 + r1) (h2 : r1 * 4294967296 + un1 = q0 * Y1 + r0)
    (hY : y * T = Y1 * 4294967296) (hr0 : 0 ≤ r0) (hr1 : r0 < Y1) (hu0 : 0 ≤ un0) (hu1 : un0 < 4294967296) : (r0 * 4294967296 + un0) / T = n % y := by
  have hR : r0 * 4294967296 + un0 = (n - (q1 * 4294967296 + q0) * y) * T := by
    have e1 : (n - (q1 * 4294967296 + q0) * y) * T = n * T - (q1 * 4294967296 + q0) * (y * T) := by grind
    rw [e1, hN, hY, h1]
    grind
  have hlt : r0 * 4294967296 + un0 < y * T := by rw [hY]; omega
  have hge : 0 ≤ r0 * 4294967296 + un0 := by omega
  obtain ⟨m, hm⟩ : ∃ m, n - (q1 * 4294967296 + q0) * y = m := ⟨_, rfl⟩
  rw [hm] at hR
  have hm0 : 0 ≤ m := by
    apply Classical.byContradiction; intro h
    have h3 : m * T < 0 := Int.mul_neg_of_neg_of_pos (by omega) hT
    omega
  have hmy : m < y := by
    apply Classical.byContradiction; intro h
    have h3 : y * T ≤ m * T := Int.mul_le_mul_of_nonneg_right (by omega) (by omega)
    omega
  rw [hR, Int.mul_ediv_cancel _ (by omega)]
  have hn : n = m + y * (q1 * 4294967296 + q0) := by grind
  rw [hn, Int.add_mul_emod_self_left, Int.emod_eq_of_lt hm0 hmy]

/-- All that the walk needs of a division by a small number, whose shift is T and 64 less it U. -/
theorem parts (hi lo y T U T1 : Int) (hT1 : 0 < T1) (hT : T = T1 * 4294967296) (hU : T * U = 18446744073709551616) (hU0 : 0 < U) (hy : 0 < y) (hyT : y * T < 18446744073709551616) (h0 : 0 ≤ hi) (h1 : hi < y) (l0 : 0 ≤ lo) (l1 : lo < 18446744073709551616) :
    ∃ u32 un10 : Int, hi * T + lo / U = u32 ∧ lo / U < T ∧ 0 ≤ lo / U ∧ lo * T % 18446744073709551616 = un10 ∧ 0 ≤ u32 ∧ u32 < y * T ∧ 0 ≤ un10 ∧ un10 < 18446744073709551616 ∧ y * T / 4294967296 = y * T1 ∧ y * T % 4294967296 = 0 ∧ 0 < y * T1 ∧
      u32 / (y * T1) < 4294967296 ∧ 0 ≤ u32 / (y * T1) ∧
      (∀ un21, u32 % (y * T1) * 4294967296 + un10 / 4294967296 = un21 → un21 < y * T ∧ 0 ≤ un21 ∧ 0 ≤ un21 / (y * T1) ∧ un21 / (y * T1) < 4294967296 ∧
        (un21 % (y * T1) * 4294967296 + un10 % 4294967296) / T = (hi * 18446744073709551616 + lo) % y ∧ un21 % (y * T1) * 4294967296 + un10 % 4294967296 < y * T ∧ 0 ≤ un21 % (y * T1)) := by
  have hTp : 0 < T := by rw [hT]; exact Int.mul_pos hT1 (by omega)
  have eY : y * T = y * T1 * 4294967296 := by rw [hT]; grind
  obtain ⟨Y1, hY1⟩ : ∃ Y1, y * T1 = Y1 := ⟨_, rfl⟩
  have hYp : 0 < Y1 := by rw [← hY1]; exact Int.mul_pos hy hT1
  rw [hY1] at eY ⊢
  have hd0 : 0 ≤ lo / U := Int.ediv_nonneg l0 (by omega)
  have hd1 : lo / U < T := Int.ediv_lt_of_lt_mul hU0 (by rw [hU]; exact l1)
  have hhT : hi * T ≤ (y - 1) * T := Int.mul_le_mul_of_nonneg_right (by omega) (by omega)
  have hhT0 : 0 ≤ hi * T := Int.mul_nonneg h0 (by omega)
  have e2 : (y - 1) * T = y * T - T := by grind
  have hm0 : 0 ≤ lo * T % 18446744073709551616 := Int.emod_nonneg _ (by omega)
  have hm1 : lo * T % 18446744073709551616 < 18446744073709551616 := Int.emod_lt_of_pos _ (by omega)
  obtain ⟨u32, hu⟩ : ∃ u, hi * T + lo / U = u := ⟨_, rfl⟩
  obtain ⟨un10, hv⟩ : ∃ u, lo * T % 18446744073709551616 = u := ⟨_, rfl⟩
  rw [hv] at hm0 hm1
  have hu1 : u32 < Y1 * 4294967296 := by omega
  refine ⟨u32, un10, hu, hd1, hd0, hv, by omega, by omega, hm0, hm1, by rw [eY]; exact Int.mul_ediv_cancel _ (by omega), by rw [eY]; exact Int.mul_emod_left _ _, hYp, ?_, Int.ediv_nonneg (by omega) (by omega), ?_⟩
  · exact Int.ediv_lt_of_lt_mul hYp (by rw [Int.mul_comm]; exact hu1)
  · intro un21 h21
    have hr1 := Int.emod_lt_of_pos u32 hYp
    have hr0 := Int.emod_nonneg u32 (show Y1 ≠ 0 by omega)
    have hs1 := Int.emod_lt_of_pos un21 hYp
    have hs0 := Int.emod_nonneg un21 (show Y1 ≠ 0 by omega)
    obtain ⟨r, hr⟩ : ∃ r, u32 % Y1 = r := ⟨_, rfl⟩
    obtain ⟨s, hs⟩ : ∃ s, un21 % Y1 = s := ⟨_, rfl⟩
    rw [hr] at h21 hr0 hr1
    have hlt : un21 < Y1 * 4294967296 := by omega
    refine ⟨by omega, by omega, Int.ediv_nonneg (by omega) (by omega), Int.ediv_lt_of_lt_mul hYp (by rw [Int.mul_comm]; exact hlt), ?_, by rw [hs] at hs1 ⊢; omega, hs0⟩
    have hU2 : lo = lo / U * U + lo % U := by have := Int.mul_ediv_add_emod lo U; rw [Int.mul_comm (lo / U)]; omega
    have hl0 : 0 ≤ lo % U := Int.emod_nonneg _ (by omega)
    have hl1 : lo % U < U := Int.emod_lt_of_pos _ hU0
    have hun : un10 = lo % U * T := by
      have e3 : lo * T = lo % U * T + 18446744073709551616 * (lo / U) := by
        calc lo * T = (lo / U * U + lo % U) * T := by rw [← hU2]
          _ = lo % U * T + (T * U) * (lo / U) := by grind
          _ = _ := by rw [hU]
      rw [← hv, e3, Int.add_mul_emod_self_left, Int.emod_eq_of_lt (Int.mul_nonneg hl0 (by omega))]
      have : lo % U * T < U * T := Int.mul_lt_mul_of_pos_right hl1 hTp
      rw [Int.mul_comm U T, hU] at this; exact this
    refine rem (hi * 18446744073709551616 + lo) y T Y1 (u32 / Y1) r (un21 / Y1) (un21 % Y1) u32 (un10 / 4294967296) (un10 % 4294967296) hTp ?_ ?_ ?_ eY hs0 hs1 (Int.emod_nonneg _ (by omega)) (Int.emod_lt_of_pos _ (by omega))
    · have e4 : u32 * 18446744073709551616 + un10 / 4294967296 * 4294967296 + un10 % 4294967296 = u32 * 18446744073709551616 + un10 := by omega
      rw [e4, ← hu, hun]
      calc (hi * 18446744073709551616 + lo) * T = hi * T * 18446744073709551616 + lo * T := by grind
        _ = hi * T * 18446744073709551616 + (lo / U * U + lo % U) * T := by rw [← hU2]
        _ = hi * T * 18446744073709551616 + (lo / U * (T * U) + lo % U * T) := by grind
        _ = _ := by rw [hU]; grind
    · rw [← hr]; have := Int.mul_ediv_add_emod u32 Y1; rw [Int.mul_comm (u32 / Y1)]; omega
    · rw [h21]; have := Int.mul_ediv_add_emod un21 Y1; rw [Int.mul_comm (un21 / Y1)]; omega
theorem and32 (x : Int) (h0 : 0 ≤ x) (h1 : x < 18446744073709551616) : bits .and .u64 x 4294967295 = x % 4294967296 := by
  obtain ⟨n, rfl⟩ := Int.eq_ofNat_of_zero_le h0
  have h := u64_and_nat n 4294967295 (by omega) (by omega)
  have e : n &&& 4294967295 = n % 4294967296 := Nat.and_two_pow_sub_one_eq_mod n 32
  rw [e] at h
  exact h
theorem or_at (k : Nat) (x y : Int) (h0 : 0 ≤ x) (h1 : x < 18446744073709551616) (hx : x % ((2 ^ k : Nat) : Int) = 0) (h2 : 0 ≤ y) (h3 : y < ((2 ^ k : Nat) : Int)) (hk : y < 18446744073709551616) : bits .or .u64 x y = x + y := by
  obtain ⟨n, rfl⟩ := Int.eq_ofNat_of_zero_le h0
  obtain ⟨m, rfl⟩ := Int.eq_ofNat_of_zero_le h2
  have h := u64_or_nat n m (by omega) (by omega)
  rw [nat_join k n m (by exact_mod_cast hx) (by exact_mod_cast h3)] at h
  rw [h]; simp
theorem w64 (x : Int) : IntKind.u64.wrap x = x % 18446744073709551616 := by rw [IntKind.wrap_u64]

/-- All equations that the walk over a division wants. -/
theorem facts (s : Nat) (hi lo y T U T1 : Int) (hs : T = ((2 ^ s : Nat) : Int)) (hT1 : 0 < T1) (hT : T = T1 * 4294967296) (hU : T * U = 18446744073709551616) (hU0 : 0 < U) (hy : 0 < y) (hyT : y * T < 18446744073709551616) (h0 : 0 ≤ hi) (h1 : hi < y) (l0 : 0 ≤ lo) (l1 : lo < 18446744073709551616) :
    ∃ Y Y1 HT D u32 v n1 n0 q1 p1 r1 x1 x2 x3 u21 q0 p0 r0 z1 z2 z3 z4 : Int, y * T = Y ∧ hi * T = HT ∧ lo / U = D ∧ 0 ≤ HT ∧ HT < 18446744073709551616 ∧ 0 ≤ Y ∧ Y < 18446744073709551616 ∧ Y / 4294967296 = Y1 ∧ ¬ Y1 = 0 ∧ bits .and .u64 Y 4294967295 = 0 ∧ bits .or .u64 HT D = u32 ∧ IntKind.u64.wrap (lo * T) = v ∧ v / 4294967296 = n1 ∧ bits .and .u64 v 4294967295 = n0 ∧
      (0 ≤ n1 ∧ n1 < 4294967296 ∧ 0 ≤ n0 ∧ n0 < 4294967296) ∧ IntKind.u64.wrap (u32.tdiv Y1) = q1 ∧ 0 ≤ q1 ∧ q1 < 4294967296 ∧ IntKind.u64.wrap (q1 * Y1) = p1 ∧ IntKind.u64.wrap (u32 - p1) = r1 ∧ 0 ≤ r1 ∧ r1 < 4294967296 ∧
      IntKind.u64.wrap (u32 * 4294967296) = x1 ∧ IntKind.u64.wrap (x1 + n1) = x2 ∧ IntKind.u64.wrap (q1 * Y) = x3 ∧ IntKind.u64.wrap (x2 - x3) = u21 ∧
      IntKind.u64.wrap (u21.tdiv Y1) = q0 ∧ 0 ≤ q0 ∧ q0 < 4294967296 ∧ IntKind.u64.wrap (q0 * Y1) = p0 ∧ IntKind.u64.wrap (u21 - p0) = r0 ∧ 0 ≤ r0 ∧ r0 < 4294967296 ∧
      IntKind.u64.wrap (u21 * 4294967296) = z1 ∧ IntKind.u64.wrap (z1 + n0) = z2 ∧ IntKind.u64.wrap (q0 * Y) = z3 ∧ IntKind.u64.wrap (z2 - z3) = z4 ∧ z4 / T = (hi * 18446744073709551616 + lo) % y := by
  obtain ⟨u32, v, a1, a2, a3, a4, a5, a6, a7, a8, b1, b2, b3, b4, b5, b6⟩ := parts hi lo y T U T1 hT1 hT hU hU0 hy hyT h0 h1 l0 l1
  have hTp : 0 < T := by rw [hT]; exact Int.mul_pos hT1 (by omega)
  have eY : y * T = y * T1 * 4294967296 := by rw [hT]; grind
  obtain ⟨Y1, hY1⟩ : ∃ Y1, y * T1 = Y1 := ⟨_, rfl⟩
  rw [hY1] at b1 b3 b4 b5 b6 eY
  obtain ⟨b6a, b6b, b6c, b6d, b6e, b6f, b6g⟩ := b6 _ rfl
  have hhT0 : 0 ≤ hi * T := Int.mul_nonneg h0 (by omega)
  have hor : bits .or .u64 (hi * T) (lo / U) = u32 := by
    rw [or_at s (hi * T) (lo / U) hhT0 (by omega) (by rw [← hs]; exact Int.mul_emod_left _ _) a3 (by rw [← hs]; exact a2) (by omega), a1]
  have hu1 : u32 = u32 / Y1 * Y1 + u32 % Y1 := by have := Int.mul_ediv_add_emod u32 Y1; rw [Int.mul_comm (u32 / Y1)]; omega
  obtain ⟨q1, hq1⟩ : ∃ q, u32 / Y1 = q := ⟨_, rfl⟩
  obtain ⟨r1, hr1⟩ : ∃ q, u32 % Y1 = q := ⟨_, rfl⟩
  have r1l : r1 < Y1 := by rw [← hr1]; exact Int.emod_lt_of_pos _ b3
  have r1g : 0 ≤ r1 := by rw [← hr1]; exact Int.emod_nonneg _ (by omega)
  rw [hq1] at b4 b5 hu1
  rw [hr1] at b6a b6b b6c b6d b6e b6f b6g hu1
  obtain ⟨u21, hu21⟩ : ∃ q, r1 * 4294967296 + v / 4294967296 = q := ⟨_, rfl⟩
  rw [hu21] at b6a b6b b6c b6d b6e b6f b6g
  have hu2 : u21 = u21 / Y1 * Y1 + u21 % Y1 := by have := Int.mul_ediv_add_emod u21 Y1; rw [Int.mul_comm (u21 / Y1)]; omega
  obtain ⟨q0, hq0⟩ : ∃ q, u21 / Y1 = q := ⟨_, rfl⟩
  obtain ⟨r0, hr0⟩ : ∃ q, u21 % Y1 = q := ⟨_, rfl⟩
  have r0l : r0 < Y1 := by rw [← hr0]; exact Int.emod_lt_of_pos _ b3
  rw [hq0] at b6c b6d hu2
  rw [hr0] at b6e b6f b6g hu2
  have m1 : q1 * (y * T) = q1 * Y1 * 4294967296 := by rw [eY]; grind
  have m0 : q0 * (y * T) = q0 * Y1 * 4294967296 := by rw [eY]; grind
  have g1 : 0 ≤ q1 * Y1 := Int.mul_nonneg b5 (by omega)
  have g0 : 0 ≤ q0 * Y1 := Int.mul_nonneg b6c (by omega)
  obtain ⟨M1, hM1⟩ : ∃ m, q1 * Y1 = m := ⟨_, rfl⟩
  obtain ⟨M0, hM0⟩ : ∃ m, q0 * Y1 = m := ⟨_, rfl⟩
  rw [hM1] at m1 g1 hu1
  rw [hM0] at m0 g0 hu2
  refine ⟨_, Y1, _, _, u32, v, _, _, q1, _, r1, _, _, _, u21, q0, _, r0, _, _, _, _, rfl, rfl, rfl, hhT0, by omega, by omega, hyT, b1, by omega, ?_, hor, by rw [w64]; exact a4, rfl, rfl, ?_, ?_, b5, b4, rfl, ?_, r1g, by omega, rfl, rfl, rfl, ?_, ?_, b6c, b6d, rfl, ?_, b6g, by omega, rfl, rfl, rfl, rfl, ?_⟩
  · rw [and32 _ (by omega) hyT, b2]
  · rw [and32 _ a7 a8]; omega
  · rw [Int.tdiv_eq_ediv_of_nonneg a5, hq1, w64]; omega
  · rw [w64, w64, hM1]; omega
  · rw [w64, w64, w64, w64, m1]; omega
  · rw [Int.tdiv_eq_ediv_of_nonneg b6b, hq0, w64]; omega
  · rw [w64, w64, hM0]; omega
  · rw [← b6e]
    congr 1
    rw [w64, w64, w64, w64, m0, and32 _ a7 a8]; omega
end Go.Proofs.YtfdchdnkblmijaaGreatDoor.Nd
