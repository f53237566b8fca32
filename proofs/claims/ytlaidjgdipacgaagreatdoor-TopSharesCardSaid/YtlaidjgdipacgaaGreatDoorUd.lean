/-
  The walk over math/bits.Div64 at the moduli Q, R and at R - 1 (printed by wip/gen_div2.py).
-/
import Derived.Test.YtlaidjgdipacgaaGreatDoorNv
namespace Go.Proofs.YtlaidjgdipacgaaGreatDoor
open Go.RowKit

namespace Nd2
theorem shr_at (lo U : Int) (h0 : 0 ≤ lo) : 0 ≤ lo / U ∨ U ≤ 0 := by
  by_cases h : 0 < U
  · exact .inl (Int.ediv_nonneg h0 (by omega))
  · exact .inr (by omega)
end Nd2

set_option maxRecDepth 100000 in
set_option maxHeartbeats 4000000 in
theorem Div64_Q (hi lo : Int) (w : World) (h0 : 0 ≤ hi) (h1 : hi < 2305843009213691579) (l0 : 0 ≤ lo) (l1 : lo < 18446744073709551616) :
    Calls Tryz.prog 92 #[.int .u64 hi, .int .u64 lo, .int .u64 2305843009213691579] w fun e w' => (∃ q, e = .returned (.tuple #[.int .u64 q, .int .u64 ((hi * 18446744073709551616 + lo) % 2305843009213691579)])) ∧ Below w.heap.size w w' := by
  obtain ⟨z, hz⟩ : ∃ z, (hi * 18446744073709551616 + lo) % 2305843009213691579 = z := ⟨_, rfl⟩
  rw [hz]
  by_cases hh : hi = 0
  · subst hh
    have e1 : lo.tmod 2305843009213691579 = z := by rw [Int.tmod_eq_emod_of_nonneg l0, ← hz]; simp
    have e2 : IntKind.u64.wrap z = z := by rw [IntKind.wrap_u64]; omega
    clear hz l0 l1 h0 h1
    go_enter Tryz.func92, Tryz.ntmps92
    go_wp2_with fail
    go_region
    all_goals
      go_wp2_with fail
      go_ret2
      exact ⟨⟨_, rfl⟩, (Below.refl _ _).drew⟩
  have hle : ¬ 2305843009213691579 ≤ hi := by omega
  have hLZ := fun W => LeadingZeros64_any 2305843009213691579 W 61 (by rfl) (by decide) (by decide) (by decide)
  obtain ⟨HT, hHT⟩ : ∃ t, hi * 8 = t := ⟨_, rfl⟩
  obtain ⟨D, hD⟩ : ∃ t, lo / 2305843009213693952 = t := ⟨_, rfl⟩
  obtain ⟨u32, hu32⟩ : ∃ u, HT + D = u := ⟨_, rfl⟩
  obtain ⟨v, hv⟩ : ∃ v, (lo * 8) % 18446744073709551616 = v := ⟨_, rfl⟩
  have hor : bits .or .u64 HT D = u32 := by rw [Nd.or_at 3 HT D (by omega) (by omega) (by show HT % 8 = 0; omega) (by omega) (by show D < 8; omega) (by omega), hu32]
  obtain ⟨n1, hn1⟩ : ∃ n, v / 4294967296 = n := ⟨_, rfl⟩
  obtain ⟨n0, hn0⟩ : ∃ n, v % 4294967296 = n := ⟨_, rfl⟩
  have f1 : IntKind.u64.wrap (lo * 8) = v := by rw [Nd.w64, hv]
  have f2 : bits .and .u64 v 4294967295 = n0 := by rw [Nd.and32 _ (by omega) (by omega), hn0]
  have f3 : bits .and .u64 18446744073709532632 4294967295 = 4294948312 := by rw [Nd.and32 _ (by decide) (by decide)]; rfl
  have f4 : IntKind.u64.wrap HT = HT := by rw [Nd.w64]; omega
  have f5 : IntKind.u64.wrap 18446744073709532632 = 18446744073709532632 := by decide
  obtain ⟨k0, hk0⟩ : ∃ q, u32 / 4294967295 = q := ⟨_, rfl⟩
  obtain ⟨q1, hq1⟩ : ∃ q, (u32 * 4294967296 + n1) / 18446744073709532632 = q := ⟨_, rfl⟩
  have f6 : IntKind.u64.wrap (u32.tdiv 4294967295) = k0 := by rw [Int.tdiv_eq_ediv_of_nonneg (by omega), hk0, Nd.w64]; omega
  have f7 : ∀ k, q1 ≤ k → k ≤ k0 → IntKind.u64.wrap (k * 4294967295) = k * 4294967295 := fun k _ _ => by rw [Nd.w64]; omega
  have f8 : ∀ k, q1 ≤ k → k ≤ k0 → IntKind.u64.wrap (u32 - k * 4294967295) = u32 - k * 4294967295 := fun k _ _ => by rw [Nd.w64]; omega
  have hkk : q1 ≤ k0 := by omega
  obtain ⟨u21, hu21⟩ : ∃ u, u32 * 4294967296 + n1 - q1 * 18446744073709532632 = u := ⟨_, rfl⟩
  have x1 : IntKind.u64.wrap (IntKind.u64.wrap (IntKind.u64.wrap (u32 * 4294967296) + n1) - IntKind.u64.wrap (q1 * 18446744073709532632)) = u21 := by rw [Nd.w64, Nd.w64, Nd.w64, Nd.w64]; omega
  obtain ⟨g0, hg0⟩ : ∃ q, u21 / 4294967295 = q := ⟨_, rfl⟩
  obtain ⟨t0, ht0⟩ : ∃ q, (u21 * 4294967296 + n0) / 18446744073709532632 = q := ⟨_, rfl⟩
  have x2 : IntKind.u64.wrap (u21.tdiv 4294967295) = g0 := by rw [Int.tdiv_eq_ediv_of_nonneg (by omega), hg0, Nd.w64]; omega
  have x3 : IntKind.u64.wrap (g0 * 4294967295) = g0 * 4294967295 := by rw [Nd.w64]; omega
  have x4 : IntKind.u64.wrap (u21 - g0 * 4294967295) = u21 - g0 * 4294967295 := by rw [Nd.w64]; omega
  have htg : t0 ≤ g0 := by omega
  have x5 : (IntKind.u64.wrap (IntKind.u64.wrap (IntKind.u64.wrap (u21 * 4294967296) + n0) - IntKind.u64.wrap (t0 * 18446744073709532632))) / 8 = z := by
    have : IntKind.u64.wrap (IntKind.u64.wrap (IntKind.u64.wrap (u21 * 4294967296) + n0) - IntKind.u64.wrap (t0 * 18446744073709532632)) = u21 * 4294967296 + n0 - t0 * 18446744073709532632 := by rw [Nd.w64, Nd.w64, Nd.w64, Nd.w64]; omega
    rw [this]
    omega
  have f9 := f7 k0 hkk (Int.le_refl _)
  have f10 := f8 k0 hkk (Int.le_refl _)
  go_enter Tryz.func92, Tryz.ntmps92
  go_wp2_with fail
  refine (hLZ _).mono ?_; rintro e w' ⟨rfl, rfl⟩
  clear hLZ
  go_wp2_with fail
  go_loopw [15, 16] (fun a b wr => ∃ k r : Int, a = .int .u64 k ∧ b = .int .u64 r ∧ r + k * 4294967295 = u32 ∧ q1 ≤ k ∧ k ≤ k0 ∧ r < 4294967296 ∧ w = wr) (fun a _ _ => (intOf a - q1).toNat)
  case atStart => exact ⟨k0, _, rfl, rfl, by omega, by omega, Int.le_refl _, by omega, rfl⟩
  case round =>
    obtain ⟨k, r, rfl, rfl, hr, hk1, hk2, hr2, rfl⟩ := hrel
    have e1 : IntKind.u64.wrap (k - 1) = k - 1 ∨ k = q1 := by rw [Nd.w64]; omega
    have e2 : IntKind.u64.wrap (r + 4294967295) = r + 4294967295 := by rw [Nd.w64]; omega
    have e3 : IntKind.u64.wrap (4294967296 * r) = 4294967296 * r := by rw [Nd.w64]; omega
    have e4 : IntKind.u64.wrap (4294967296 * r + n1) = 4294967296 * r + n1 := by rw [Nd.w64]; omega
    have hc : 4294967296 ≤ k ∨ (¬ 4294967296 ≤ k ∧ 4294967296 * r + n1 < k * 4294948312) ∨ (¬ 4294967296 ≤ k ∧ ¬ 4294967296 * r + n1 < k * 4294948312) := by omega
    have fin : ∀ m, IntKind.u64.wrap (m * 4294948312) = m * 4294948312 ∨ 4294967296 ≤ m ∨ m < 0 := fun m => by rw [Nd.w64]; omega
    rcases hc with hc | ⟨hc, hd⟩ | ⟨hc, hd⟩
    · have hkq : q1 < k := by omega
      have e1 : IntKind.u64.wrap (k - 1) = k - 1 := e1.resolve_right (by omega)
      by_cases hbr : 4294967296 ≤ r + 4294967295
      · have hkk : k - 1 = q1 := by omega
        rw [hkk] at e1
        clear fin
        go_wp2_with fail
        go_loopw [18, 16] (fun a b wr => ∃ k r : Int, a = .int .u64 k ∧ b = .int .u64 r ∧ r + k * 4294967295 = u21 ∧ t0 ≤ k ∧ k ≤ g0 ∧ r < 4294967296 ∧ w = wr) (fun a _ _ => (intOf a - t0).toNat)
        case atStart => exact ⟨g0, _, rfl, rfl, by omega, by omega, Int.le_refl _, by omega, rfl⟩
        case round =>
          obtain ⟨k, r, rfl, rfl, hr, hk1, hk2, hr2, rfl⟩ := hrel
          have e1 : IntKind.u64.wrap (k - 1) = k - 1 ∨ k = t0 := by rw [Nd.w64]; omega
          have e2 : IntKind.u64.wrap (r + 4294967295) = r + 4294967295 := by rw [Nd.w64]; omega
          have e3 : IntKind.u64.wrap (4294967296 * r) = 4294967296 * r := by rw [Nd.w64]; omega
          have e4 : IntKind.u64.wrap (4294967296 * r + n0) = 4294967296 * r + n0 := by rw [Nd.w64]; omega
          have hc : 4294967296 ≤ k ∨ (¬ 4294967296 ≤ k ∧ 4294967296 * r + n0 < k * 4294948312) ∨ (¬ 4294967296 ≤ k ∧ ¬ 4294967296 * r + n0 < k * 4294948312) := by omega
          have fin : ∀ m, IntKind.u64.wrap (m * 4294948312) = m * 4294948312 ∨ 4294967296 ≤ m ∨ m < 0 := fun m => by rw [Nd.w64]; omega
          rcases hc with hc | ⟨hc, hd⟩ | ⟨hc, hd⟩
          · have hkq : t0 < k := by omega
            have e1 : IntKind.u64.wrap (k - 1) = k - 1 := e1.resolve_right (by omega)
            by_cases hbr : 4294967296 ≤ r + 4294967295
            · have hkk : k - 1 = t0 := by omega
              rw [hkk] at e1
              clear fin
              go_wp2_with fail
              go_ret2
              exact ⟨⟨_, rfl⟩, Below.refl _ _⟩
            · go_wp2_with fail
              go_roundw
              case rel => exact ⟨k - 1, r + 4294967295, rfl, rfl, by omega, by omega, by omega, by omega, trivial⟩
              case measure => simp [intOf]; omega
          · have hkq : t0 < k := by omega
            have e1 : IntKind.u64.wrap (k - 1) = k - 1 := e1.resolve_right (by omega)
            have e5 : IntKind.u64.wrap (k * 4294948312) = k * 4294948312 := (fin k).resolve_right (by omega)
            by_cases hbr : 4294967296 ≤ r + 4294967295
            · have hkk : k - 1 = t0 := by omega
              rw [hkk] at e1
              clear fin
              go_wp2_with fail
              go_ret2
              exact ⟨⟨_, rfl⟩, Below.refl _ _⟩
            · go_wp2_with fail
              go_roundw
              case rel => exact ⟨k - 1, r + 4294967295, rfl, rfl, by omega, by omega, by omega, by omega, trivial⟩
              case measure => simp [intOf]; omega
          · obtain rfl : k = t0 := by omega
            have e5 : IntKind.u64.wrap (k * 4294948312) = k * 4294948312 := (fin k).resolve_right (by omega)
            clear fin
            go_wp2_with fail
            go_ret2
            exact ⟨⟨_, rfl⟩, Below.refl _ _⟩
      · go_wp2_with fail
        go_roundw
        case rel => exact ⟨k - 1, r + 4294967295, rfl, rfl, by omega, by omega, by omega, by omega, trivial⟩
        case measure => simp [intOf]; omega
    · have hkq : q1 < k := by omega
      have e1 : IntKind.u64.wrap (k - 1) = k - 1 := e1.resolve_right (by omega)
      have e5 : IntKind.u64.wrap (k * 4294948312) = k * 4294948312 := (fin k).resolve_right (by omega)
      by_cases hbr : 4294967296 ≤ r + 4294967295
      · have hkk : k - 1 = q1 := by omega
        rw [hkk] at e1
        clear fin
        go_wp2_with fail
        go_loopw [18, 16] (fun a b wr => ∃ k r : Int, a = .int .u64 k ∧ b = .int .u64 r ∧ r + k * 4294967295 = u21 ∧ t0 ≤ k ∧ k ≤ g0 ∧ r < 4294967296 ∧ w = wr) (fun a _ _ => (intOf a - t0).toNat)
        case atStart => exact ⟨g0, _, rfl, rfl, by omega, by omega, Int.le_refl _, by omega, rfl⟩
        case round =>
          obtain ⟨k, r, rfl, rfl, hr, hk1, hk2, hr2, rfl⟩ := hrel
          have e1 : IntKind.u64.wrap (k - 1) = k - 1 ∨ k = t0 := by rw [Nd.w64]; omega
          have e2 : IntKind.u64.wrap (r + 4294967295) = r + 4294967295 := by rw [Nd.w64]; omega
          have e3 : IntKind.u64.wrap (4294967296 * r) = 4294967296 * r := by rw [Nd.w64]; omega
          have e4 : IntKind.u64.wrap (4294967296 * r + n0) = 4294967296 * r + n0 := by rw [Nd.w64]; omega
          have hc : 4294967296 ≤ k ∨ (¬ 4294967296 ≤ k ∧ 4294967296 * r + n0 < k * 4294948312) ∨ (¬ 4294967296 ≤ k ∧ ¬ 4294967296 * r + n0 < k * 4294948312) := by omega
          have fin : ∀ m, IntKind.u64.wrap (m * 4294948312) = m * 4294948312 ∨ 4294967296 ≤ m ∨ m < 0 := fun m => by rw [Nd.w64]; omega
          rcases hc with hc | ⟨hc, hd⟩ | ⟨hc, hd⟩
          · have hkq : t0 < k := by omega
            have e1 : IntKind.u64.wrap (k - 1) = k - 1 := e1.resolve_right (by omega)
            by_cases hbr : 4294967296 ≤ r + 4294967295
            · have hkk : k - 1 = t0 := by omega
              rw [hkk] at e1
              clear fin
              go_wp2_with fail
              go_ret2
              exact ⟨⟨_, rfl⟩, Below.refl _ _⟩
            · go_wp2_with fail
              go_roundw
              case rel => exact ⟨k - 1, r + 4294967295, rfl, rfl, by omega, by omega, by omega, by omega, trivial⟩
              case measure => simp [intOf]; omega
          · have hkq : t0 < k := by omega
            have e1 : IntKind.u64.wrap (k - 1) = k - 1 := e1.resolve_right (by omega)
            have e5 : IntKind.u64.wrap (k * 4294948312) = k * 4294948312 := (fin k).resolve_right (by omega)
            by_cases hbr : 4294967296 ≤ r + 4294967295
            · have hkk : k - 1 = t0 := by omega
              rw [hkk] at e1
              clear fin
              go_wp2_with fail
              go_ret2
              exact ⟨⟨_, rfl⟩, Below.refl _ _⟩
            · go_wp2_with fail
              go_roundw
              case rel => exact ⟨k - 1, r + 4294967295, rfl, rfl, by omega, by omega, by omega, by omega, trivial⟩
              case measure => simp [intOf]; omega
          · obtain rfl : k = t0 := by omega
            have e5 : IntKind.u64.wrap (k * 4294948312) = k * 4294948312 := (fin k).resolve_right (by omega)
            clear fin
            go_wp2_with fail
            go_ret2
            exact ⟨⟨_, rfl⟩, Below.refl _ _⟩
      · go_wp2_with fail
        go_roundw
        case rel => exact ⟨k - 1, r + 4294967295, rfl, rfl, by omega, by omega, by omega, by omega, trivial⟩
        case measure => simp [intOf]; omega
    · obtain rfl : k = q1 := by omega
      have e5 : IntKind.u64.wrap (k * 4294948312) = k * 4294948312 := (fin k).resolve_right (by omega)
      clear fin
      go_wp2_with fail
      go_loopw [18, 16] (fun a b wr => ∃ k r : Int, a = .int .u64 k ∧ b = .int .u64 r ∧ r + k * 4294967295 = u21 ∧ t0 ≤ k ∧ k ≤ g0 ∧ r < 4294967296 ∧ w = wr) (fun a _ _ => (intOf a - t0).toNat)
      case atStart => exact ⟨g0, _, rfl, rfl, by omega, by omega, Int.le_refl _, by omega, rfl⟩
      case round =>
        obtain ⟨k, r, rfl, rfl, hr, hk1, hk2, hr2, rfl⟩ := hrel
        have e1 : IntKind.u64.wrap (k - 1) = k - 1 ∨ k = t0 := by rw [Nd.w64]; omega
        have e2 : IntKind.u64.wrap (r + 4294967295) = r + 4294967295 := by rw [Nd.w64]; omega
        have e3 : IntKind.u64.wrap (4294967296 * r) = 4294967296 * r := by rw [Nd.w64]; omega
        have e4 : IntKind.u64.wrap (4294967296 * r + n0) = 4294967296 * r + n0 := by rw [Nd.w64]; omega
        have hc : 4294967296 ≤ k ∨ (¬ 4294967296 ≤ k ∧ 4294967296 * r + n0 < k * 4294948312) ∨ (¬ 4294967296 ≤ k ∧ ¬ 4294967296 * r + n0 < k * 4294948312) := by omega
        have fin : ∀ m, IntKind.u64.wrap (m * 4294948312) = m * 4294948312 ∨ 4294967296 ≤ m ∨ m < 0 := fun m => by rw [Nd.w64]; omega
        rcases hc with hc | ⟨hc, hd⟩ | ⟨hc, hd⟩
        · have hkq : t0 < k := by omega
          have e1 : IntKind.u64.wrap (k - 1) = k - 1 := e1.resolve_right (by omega)
          by_cases hbr : 4294967296 ≤ r + 4294967295
          · have hkk : k - 1 = t0 := by omega
            rw [hkk] at e1
            clear fin
            go_wp2_with fail
            go_ret2
            exact ⟨⟨_, rfl⟩, Below.refl _ _⟩
          · go_wp2_with fail
            go_roundw
            case rel => exact ⟨k - 1, r + 4294967295, rfl, rfl, by omega, by omega, by omega, by omega, trivial⟩
            case measure => simp [intOf]; omega
        · have hkq : t0 < k := by omega
          have e1 : IntKind.u64.wrap (k - 1) = k - 1 := e1.resolve_right (by omega)
          have e5 : IntKind.u64.wrap (k * 4294948312) = k * 4294948312 := (fin k).resolve_right (by omega)
          by_cases hbr : 4294967296 ≤ r + 4294967295
          · have hkk : k - 1 = t0 := by omega
            rw [hkk] at e1
            clear fin
            go_wp2_with fail
            go_ret2
            exact ⟨⟨_, rfl⟩, Below.refl _ _⟩
          · go_wp2_with fail
            go_roundw
            case rel => exact ⟨k - 1, r + 4294967295, rfl, rfl, by omega, by omega, by omega, by omega, trivial⟩
            case measure => simp [intOf]; omega
        · obtain rfl : k = t0 := by omega
          have e5 : IntKind.u64.wrap (k * 4294948312) = k * 4294948312 := (fin k).resolve_right (by omega)
          clear fin
          go_wp2_with fail
          go_ret2
          exact ⟨⟨_, rfl⟩, Below.refl _ _⟩


set_option maxRecDepth 100000 in
set_option maxHeartbeats 4000000 in
theorem Div64_R (hi lo : Int) (w : World) (h0 : 0 ≤ hi) (h1 : hi < 1152921504606845789) (l0 : 0 ≤ lo) (l1 : lo < 18446744073709551616) :
    Calls Tryz.prog 92 #[.int .u64 hi, .int .u64 lo, .int .u64 1152921504606845789] w fun e w' => (∃ q, e = .returned (.tuple #[.int .u64 q, .int .u64 ((hi * 18446744073709551616 + lo) % 1152921504606845789)])) ∧ Below w.heap.size w w' := by
  obtain ⟨z, hz⟩ : ∃ z, (hi * 18446744073709551616 + lo) % 1152921504606845789 = z := ⟨_, rfl⟩
  rw [hz]
  by_cases hh : hi = 0
  · subst hh
    have e1 : lo.tmod 1152921504606845789 = z := by rw [Int.tmod_eq_emod_of_nonneg l0, ← hz]; simp
    have e2 : IntKind.u64.wrap z = z := by rw [IntKind.wrap_u64]; omega
    clear hz l0 l1 h0 h1
    go_enter Tryz.func92, Tryz.ntmps92
    go_wp2_with fail
    go_region
    all_goals
      go_wp2_with fail
      go_ret2
      exact ⟨⟨_, rfl⟩, (Below.refl _ _).drew⟩
  have hle : ¬ 1152921504606845789 ≤ hi := by omega
  have hLZ := fun W => LeadingZeros64_any 1152921504606845789 W 60 (by rfl) (by decide) (by decide) (by decide)
  obtain ⟨HT, hHT⟩ : ∃ t, hi * 16 = t := ⟨_, rfl⟩
  obtain ⟨D, hD⟩ : ∃ t, lo / 1152921504606846976 = t := ⟨_, rfl⟩
  obtain ⟨u32, hu32⟩ : ∃ u, HT + D = u := ⟨_, rfl⟩
  obtain ⟨v, hv⟩ : ∃ v, (lo * 16) % 18446744073709551616 = v := ⟨_, rfl⟩
  have hor : bits .or .u64 HT D = u32 := by rw [Nd.or_at 4 HT D (by omega) (by omega) (by show HT % 16 = 0; omega) (by omega) (by show D < 16; omega) (by omega), hu32]
  obtain ⟨n1, hn1⟩ : ∃ n, v / 4294967296 = n := ⟨_, rfl⟩
  obtain ⟨n0, hn0⟩ : ∃ n, v % 4294967296 = n := ⟨_, rfl⟩
  have f1 : IntKind.u64.wrap (lo * 16) = v := by rw [Nd.w64, hv]
  have f2 : bits .and .u64 v 4294967295 = n0 := by rw [Nd.and32 _ (by omega) (by omega), hn0]
  have f3 : bits .and .u64 18446744073709532624 4294967295 = 4294948304 := by rw [Nd.and32 _ (by decide) (by decide)]; rfl
  have f4 : IntKind.u64.wrap HT = HT := by rw [Nd.w64]; omega
  have f5 : IntKind.u64.wrap 18446744073709532624 = 18446744073709532624 := by decide
  obtain ⟨k0, hk0⟩ : ∃ q, u32 / 4294967295 = q := ⟨_, rfl⟩
  obtain ⟨q1, hq1⟩ : ∃ q, (u32 * 4294967296 + n1) / 18446744073709532624 = q := ⟨_, rfl⟩
  have f6 : IntKind.u64.wrap (u32.tdiv 4294967295) = k0 := by rw [Int.tdiv_eq_ediv_of_nonneg (by omega), hk0, Nd.w64]; omega
  have f7 : ∀ k, q1 ≤ k → k ≤ k0 → IntKind.u64.wrap (k * 4294967295) = k * 4294967295 := fun k _ _ => by rw [Nd.w64]; omega
  have f8 : ∀ k, q1 ≤ k → k ≤ k0 → IntKind.u64.wrap (u32 - k * 4294967295) = u32 - k * 4294967295 := fun k _ _ => by rw [Nd.w64]; omega
  have hkk : q1 ≤ k0 := by omega
  obtain ⟨u21, hu21⟩ : ∃ u, u32 * 4294967296 + n1 - q1 * 18446744073709532624 = u := ⟨_, rfl⟩
  have x1 : IntKind.u64.wrap (IntKind.u64.wrap (IntKind.u64.wrap (u32 * 4294967296) + n1) - IntKind.u64.wrap (q1 * 18446744073709532624)) = u21 := by rw [Nd.w64, Nd.w64, Nd.w64, Nd.w64]; omega
  obtain ⟨g0, hg0⟩ : ∃ q, u21 / 4294967295 = q := ⟨_, rfl⟩
  obtain ⟨t0, ht0⟩ : ∃ q, (u21 * 4294967296 + n0) / 18446744073709532624 = q := ⟨_, rfl⟩
  have x2 : IntKind.u64.wrap (u21.tdiv 4294967295) = g0 := by rw [Int.tdiv_eq_ediv_of_nonneg (by omega), hg0, Nd.w64]; omega
  have x3 : IntKind.u64.wrap (g0 * 4294967295) = g0 * 4294967295 := by rw [Nd.w64]; omega
  have x4 : IntKind.u64.wrap (u21 - g0 * 4294967295) = u21 - g0 * 4294967295 := by rw [Nd.w64]; omega
  have htg : t0 ≤ g0 := by omega
  have x5 : (IntKind.u64.wrap (IntKind.u64.wrap (IntKind.u64.wrap (u21 * 4294967296) + n0) - IntKind.u64.wrap (t0 * 18446744073709532624))) / 16 = z := by
    have : IntKind.u64.wrap (IntKind.u64.wrap (IntKind.u64.wrap (u21 * 4294967296) + n0) - IntKind.u64.wrap (t0 * 18446744073709532624)) = u21 * 4294967296 + n0 - t0 * 18446744073709532624 := by rw [Nd.w64, Nd.w64, Nd.w64, Nd.w64]; omega
    rw [this]
    omega
  have f9 := f7 k0 hkk (Int.le_refl _)
  have f10 := f8 k0 hkk (Int.le_refl _)
  go_enter Tryz.func92, Tryz.ntmps92
  go_wp2_with fail
  refine (hLZ _).mono ?_; rintro e w' ⟨rfl, rfl⟩
  clear hLZ
  go_wp2_with fail
  go_loopw [15, 16] (fun a b wr => ∃ k r : Int, a = .int .u64 k ∧ b = .int .u64 r ∧ r + k * 4294967295 = u32 ∧ q1 ≤ k ∧ k ≤ k0 ∧ r < 4294967296 ∧ w = wr) (fun a _ _ => (intOf a - q1).toNat)
  case atStart => exact ⟨k0, _, rfl, rfl, by omega, by omega, Int.le_refl _, by omega, rfl⟩
  case round =>
    obtain ⟨k, r, rfl, rfl, hr, hk1, hk2, hr2, rfl⟩ := hrel
    have e1 : IntKind.u64.wrap (k - 1) = k - 1 ∨ k = q1 := by rw [Nd.w64]; omega
    have e2 : IntKind.u64.wrap (r + 4294967295) = r + 4294967295 := by rw [Nd.w64]; omega
    have e3 : IntKind.u64.wrap (4294967296 * r) = 4294967296 * r := by rw [Nd.w64]; omega
    have e4 : IntKind.u64.wrap (4294967296 * r + n1) = 4294967296 * r + n1 := by rw [Nd.w64]; omega
    have hc : 4294967296 ≤ k ∨ (¬ 4294967296 ≤ k ∧ 4294967296 * r + n1 < k * 4294948304) ∨ (¬ 4294967296 ≤ k ∧ ¬ 4294967296 * r + n1 < k * 4294948304) := by omega
    have fin : ∀ m, IntKind.u64.wrap (m * 4294948304) = m * 4294948304 ∨ 4294967296 ≤ m ∨ m < 0 := fun m => by rw [Nd.w64]; omega
    rcases hc with hc | ⟨hc, hd⟩ | ⟨hc, hd⟩
    · have hkq : q1 < k := by omega
      have e1 : IntKind.u64.wrap (k - 1) = k - 1 := e1.resolve_right (by omega)
      by_cases hbr : 4294967296 ≤ r + 4294967295
      · have hkk : k - 1 = q1 := by omega
        rw [hkk] at e1
        clear fin
        go_wp2_with fail
        go_loopw [18, 16] (fun a b wr => ∃ k r : Int, a = .int .u64 k ∧ b = .int .u64 r ∧ r + k * 4294967295 = u21 ∧ t0 ≤ k ∧ k ≤ g0 ∧ r < 4294967296 ∧ w = wr) (fun a _ _ => (intOf a - t0).toNat)
        case atStart => exact ⟨g0, _, rfl, rfl, by omega, by omega, Int.le_refl _, by omega, rfl⟩
        case round =>
          obtain ⟨k, r, rfl, rfl, hr, hk1, hk2, hr2, rfl⟩ := hrel
          have e1 : IntKind.u64.wrap (k - 1) = k - 1 ∨ k = t0 := by rw [Nd.w64]; omega
          have e2 : IntKind.u64.wrap (r + 4294967295) = r + 4294967295 := by rw [Nd.w64]; omega
          have e3 : IntKind.u64.wrap (4294967296 * r) = 4294967296 * r := by rw [Nd.w64]; omega
          have e4 : IntKind.u64.wrap (4294967296 * r + n0) = 4294967296 * r + n0 := by rw [Nd.w64]; omega
          have hc : 4294967296 ≤ k ∨ (¬ 4294967296 ≤ k ∧ 4294967296 * r + n0 < k * 4294948304) ∨ (¬ 4294967296 ≤ k ∧ ¬ 4294967296 * r + n0 < k * 4294948304) := by omega
          have fin : ∀ m, IntKind.u64.wrap (m * 4294948304) = m * 4294948304 ∨ 4294967296 ≤ m ∨ m < 0 := fun m => by rw [Nd.w64]; omega
          rcases hc with hc | ⟨hc, hd⟩ | ⟨hc, hd⟩
          · have hkq : t0 < k := by omega
            have e1 : IntKind.u64.wrap (k - 1) = k - 1 := e1.resolve_right (by omega)
            by_cases hbr : 4294967296 ≤ r + 4294967295
            · have hkk : k - 1 = t0 := by omega
              rw [hkk] at e1
              clear fin
              go_wp2_with fail
              go_ret2
              exact ⟨⟨_, rfl⟩, Below.refl _ _⟩
            · go_wp2_with fail
              go_roundw
              case rel => exact ⟨k - 1, r + 4294967295, rfl, rfl, by omega, by omega, by omega, by omega, trivial⟩
              case measure => simp [intOf]; omega
          · have hkq : t0 < k := by omega
            have e1 : IntKind.u64.wrap (k - 1) = k - 1 := e1.resolve_right (by omega)
            have e5 : IntKind.u64.wrap (k * 4294948304) = k * 4294948304 := (fin k).resolve_right (by omega)
            by_cases hbr : 4294967296 ≤ r + 4294967295
            · have hkk : k - 1 = t0 := by omega
              rw [hkk] at e1
              clear fin
              go_wp2_with fail
              go_ret2
              exact ⟨⟨_, rfl⟩, Below.refl _ _⟩
            · go_wp2_with fail
              go_roundw
              case rel => exact ⟨k - 1, r + 4294967295, rfl, rfl, by omega, by omega, by omega, by omega, trivial⟩
              case measure => simp [intOf]; omega
          · obtain rfl : k = t0 := by omega
            have e5 : IntKind.u64.wrap (k * 4294948304) = k * 4294948304 := (fin k).resolve_right (by omega)
            clear fin
            go_wp2_with fail
            go_ret2
            exact ⟨⟨_, rfl⟩, Below.refl _ _⟩
      · go_wp2_with fail
        go_roundw
        case rel => exact ⟨k - 1, r + 4294967295, rfl, rfl, by omega, by omega, by omega, by omega, trivial⟩
        case measure => simp [intOf]; omega
    · have hkq : q1 < k := by omega
      have e1 : IntKind.u64.wrap (k - 1) = k - 1 := e1.resolve_right (by omega)
      have e5 : IntKind.u64.wrap (k * 4294948304) = k * 4294948304 := (fin k).resolve_right (by omega)
      by_cases hbr : 4294967296 ≤ r + 4294967295
      · have hkk : k - 1 = q1 := by omega
        rw [hkk] at e1
        clear fin
        go_wp2_with fail
        go_loopw [18, 16] (fun a b wr => ∃ k r : Int, a = .int .u64 k ∧ b = .int .u64 r ∧ r + k * 4294967295 = u21 ∧ t0 ≤ k ∧ k ≤ g0 ∧ r < 4294967296 ∧ w = wr) (fun a _ _ => (intOf a - t0).toNat)
        case atStart => exact ⟨g0, _, rfl, rfl, by omega, by omega, Int.le_refl _, by omega, rfl⟩
        case round =>
          obtain ⟨k, r, rfl, rfl, hr, hk1, hk2, hr2, rfl⟩ := hrel
          have e1 : IntKind.u64.wrap (k - 1) = k - 1 ∨ k = t0 := by rw [Nd.w64]; omega
          have e2 : IntKind.u64.wrap (r + 4294967295) = r + 4294967295 := by rw [Nd.w64]; omega
          have e3 : IntKind.u64.wrap (4294967296 * r) = 4294967296 * r := by rw [Nd.w64]; omega
          have e4 : IntKind.u64.wrap (4294967296 * r + n0) = 4294967296 * r + n0 := by rw [Nd.w64]; omega
          have hc : 4294967296 ≤ k ∨ (¬ 4294967296 ≤ k ∧ 4294967296 * r + n0 < k * 4294948304) ∨ (¬ 4294967296 ≤ k ∧ ¬ 4294967296 * r + n0 < k * 4294948304) := by omega
          have fin : ∀ m, IntKind.u64.wrap (m * 4294948304) = m * 4294948304 ∨ 4294967296 ≤ m ∨ m < 0 := fun m => by rw [Nd.w64]; omega
          rcases hc with hc | ⟨hc, hd⟩ | ⟨hc, hd⟩
          · have hkq : t0 < k := by omega
            have e1 : IntKind.u64.wrap (k - 1) = k - 1 := e1.resolve_right (by omega)
            by_cases hbr : 4294967296 ≤ r + 4294967295
            · have hkk : k - 1 = t0 := by omega
              rw [hkk] at e1
              clear fin
              go_wp2_with fail
              go_ret2
              exact ⟨⟨_, rfl⟩, Below.refl _ _⟩
            · go_wp2_with fail
              go_roundw
              case rel => exact ⟨k - 1, r + 4294967295, rfl, rfl, by omega, by omega, by omega, by omega, trivial⟩
              case measure => simp [intOf]; omega
          · have hkq : t0 < k := by omega
            have e1 : IntKind.u64.wrap (k - 1) = k - 1 := e1.resolve_right (by omega)
            have e5 : IntKind.u64.wrap (k * 4294948304) = k * 4294948304 := (fin k).resolve_right (by omega)
            by_cases hbr : 4294967296 ≤ r + 4294967295
            · have hkk : k - 1 = t0 := by omega
              rw [hkk] at e1
              clear fin
              go_wp2_with fail
              go_ret2
              exact ⟨⟨_, rfl⟩, Below.refl _ _⟩
            · go_wp2_with fail
              go_roundw
              case rel => exact ⟨k - 1, r + 4294967295, rfl, rfl, by omega, by omega, by omega, by omega, trivial⟩
              case measure => simp [intOf]; omega
          · obtain rfl : k = t0 := by omega
            have e5 : IntKind.u64.wrap (k * 4294948304) = k * 4294948304 := (fin k).resolve_right (by omega)
            clear fin
            go_wp2_with fail
            go_ret2
            exact ⟨⟨_, rfl⟩, Below.refl _ _⟩
      · go_wp2_with fail
        go_roundw
        case rel => exact ⟨k - 1, r + 4294967295, rfl, rfl, by omega, by omega, by omega, by omega, trivial⟩
        case measure => simp [intOf]; omega
    · obtain rfl : k = q1 := by omega
      have e5 : IntKind.u64.wrap (k * 4294948304) = k * 4294948304 := (fin k).resolve_right (by omega)
      clear fin
      go_wp2_with fail
      go_loopw [18, 16] (fun a b wr => ∃ k r : Int, a = .int .u64 k ∧ b = .int .u64 r ∧ r + k * 4294967295 = u21 ∧ t0 ≤ k ∧ k ≤ g0 ∧ r < 4294967296 ∧ w = wr) (fun a _ _ => (intOf a - t0).toNat)
      case atStart => exact ⟨g0, _, rfl, rfl, by omega, by omega, Int.le_refl _, by omega, rfl⟩
      case round =>
        obtain ⟨k, r, rfl, rfl, hr, hk1, hk2, hr2, rfl⟩ := hrel
        have e1 : IntKind.u64.wrap (k - 1) = k - 1 ∨ k = t0 := by rw [Nd.w64]; omega
        have e2 : IntKind.u64.wrap (r + 4294967295) = r + 4294967295 := by rw [Nd.w64]; omega
        have e3 : IntKind.u64.wrap (4294967296 * r) = 4294967296 * r := by rw [Nd.w64]; omega
        have e4 : IntKind.u64.wrap (4294967296 * r + n0) = 4294967296 * r + n0 := by rw [Nd.w64]; omega
        have hc : 4294967296 ≤ k ∨ (¬ 4294967296 ≤ k ∧ 4294967296 * r + n0 < k * 4294948304) ∨ (¬ 4294967296 ≤ k ∧ ¬ 4294967296 * r + n0 < k * 4294948304) := by omega
        have fin : ∀ m, IntKind.u64.wrap (m * 4294948304) = m * 4294948304 ∨ 4294967296 ≤ m ∨ m < 0 := fun m => by rw [Nd.w64]; omega
        rcases hc with hc | ⟨hc, hd⟩ | ⟨hc, hd⟩
        · have hkq : t0 < k := by omega
          have e1 : IntKind.u64.wrap (k - 1) = k - 1 := e1.resolve_right (by omega)
          by_cases hbr : 4294967296 ≤ r + 4294967295
          · have hkk : k - 1 = t0 := by omega
            rw [hkk] at e1
            clear fin
            go_wp2_with fail
            go_ret2
            exact ⟨⟨_, rfl⟩, Below.refl _ _⟩
          · go_wp2_with fail
            go_roundw
            case rel => exact ⟨k - 1, r + 4294967295, rfl, rfl, by omega, by omega, by omega, by omega, trivial⟩
            case measure => simp [intOf]; omega
        · have hkq : t0 < k := by omega
          have e1 : IntKind.u64.wrap (k - 1) = k - 1 := e1.resolve_right (by omega)
          have e5 : IntKind.u64.wrap (k * 4294948304) = k * 4294948304 := (fin k).resolve_right (by omega)
          by_cases hbr : 4294967296 ≤ r + 4294967295
          · have hkk : k - 1 = t0 := by omega
            rw [hkk] at e1
            clear fin
            go_wp2_with fail
            go_ret2
            exact ⟨⟨_, rfl⟩, Below.refl _ _⟩
          · go_wp2_with fail
            go_roundw
            case rel => exact ⟨k - 1, r + 4294967295, rfl, rfl, by omega, by omega, by omega, by omega, trivial⟩
            case measure => simp [intOf]; omega
        · obtain rfl : k = t0 := by omega
          have e5 : IntKind.u64.wrap (k * 4294948304) = k * 4294948304 := (fin k).resolve_right (by omega)
          clear fin
          go_wp2_with fail
          go_ret2
          exact ⟨⟨_, rfl⟩, Below.refl _ _⟩


set_option maxRecDepth 100000 in
set_option maxHeartbeats 4000000 in
theorem Div64_R1 (hi lo : Int) (w : World) (h0 : 0 ≤ hi) (h1 : hi < 1152921504606845788) (l0 : 0 ≤ lo) (l1 : lo < 18446744073709551616) :
    Calls Tryz.prog 92 #[.int .u64 hi, .int .u64 lo, .int .u64 1152921504606845788] w fun e w' => (∃ q, e = .returned (.tuple #[.int .u64 q, .int .u64 ((hi * 18446744073709551616 + lo) % 1152921504606845788)])) ∧ Below w.heap.size w w' := by
  obtain ⟨z, hz⟩ : ∃ z, (hi * 18446744073709551616 + lo) % 1152921504606845788 = z := ⟨_, rfl⟩
  rw [hz]
  by_cases hh : hi = 0
  · subst hh
    have e1 : lo.tmod 1152921504606845788 = z := by rw [Int.tmod_eq_emod_of_nonneg l0, ← hz]; simp
    have e2 : IntKind.u64.wrap z = z := by rw [IntKind.wrap_u64]; omega
    clear hz l0 l1 h0 h1
    go_enter Tryz.func92, Tryz.ntmps92
    go_wp2_with fail
    go_region
    all_goals
      go_wp2_with fail
      go_ret2
      exact ⟨⟨_, rfl⟩, (Below.refl _ _).drew⟩
  have hle : ¬ 1152921504606845788 ≤ hi := by omega
  have hLZ := fun W => LeadingZeros64_any 1152921504606845788 W 60 (by rfl) (by decide) (by decide) (by decide)
  obtain ⟨HT, hHT⟩ : ∃ t, hi * 16 = t := ⟨_, rfl⟩
  obtain ⟨D, hD⟩ : ∃ t, lo / 1152921504606846976 = t := ⟨_, rfl⟩
  obtain ⟨u32, hu32⟩ : ∃ u, HT + D = u := ⟨_, rfl⟩
  obtain ⟨v, hv⟩ : ∃ v, (lo * 16) % 18446744073709551616 = v := ⟨_, rfl⟩
  have hor : bits .or .u64 HT D = u32 := by rw [Nd.or_at 4 HT D (by omega) (by omega) (by show HT % 16 = 0; omega) (by omega) (by show D < 16; omega) (by omega), hu32]
  obtain ⟨n1, hn1⟩ : ∃ n, v / 4294967296 = n := ⟨_, rfl⟩
  obtain ⟨n0, hn0⟩ : ∃ n, v % 4294967296 = n := ⟨_, rfl⟩
  have f1 : IntKind.u64.wrap (lo * 16) = v := by rw [Nd.w64, hv]
  have f2 : bits .and .u64 v 4294967295 = n0 := by rw [Nd.and32 _ (by omega) (by omega), hn0]
  have f3 : bits .and .u64 18446744073709532608 4294967295 = 4294948288 := by rw [Nd.and32 _ (by decide) (by decide)]; rfl
  have f4 : IntKind.u64.wrap HT = HT := by rw [Nd.w64]; omega
  have f5 : IntKind.u64.wrap 18446744073709532608 = 18446744073709532608 := by decide
  obtain ⟨k0, hk0⟩ : ∃ q, u32 / 4294967295 = q := ⟨_, rfl⟩
  obtain ⟨q1, hq1⟩ : ∃ q, (u32 * 4294967296 + n1) / 18446744073709532608 = q := ⟨_, rfl⟩
  have f6 : IntKind.u64.wrap (u32.tdiv 4294967295) = k0 := by rw [Int.tdiv_eq_ediv_of_nonneg (by omega), hk0, Nd.w64]; omega
  have f7 : ∀ k, q1 ≤ k → k ≤ k0 → IntKind.u64.wrap (k * 4294967295) = k * 4294967295 := fun k _ _ => by rw [Nd.w64]; omega
  have f8 : ∀ k, q1 ≤ k → k ≤ k0 → IntKind.u64.wrap (u32 - k * 4294967295) = u32 - k * 4294967295 := fun k _ _ => by rw [Nd.w64]; omega
  have hkk : q1 ≤ k0 := by omega
  obtain ⟨u21, hu21⟩ : ∃ u, u32 * 4294967296 + n1 - q1 * 18446744073709532608 = u := ⟨_, rfl⟩
  have x1 : IntKind.u64.wrap (IntKind.u64.wrap (IntKind.u64.wrap (u32 * 4294967296) + n1) - IntKind.u64.wrap (q1 * 18446744073709532608)) = u21 := by rw [Nd.w64, Nd.w64, Nd.w64, Nd.w64]; omega
  obtain ⟨g0, hg0⟩ : ∃ q, u21 / 4294967295 = q := ⟨_, rfl⟩
  obtain ⟨t0, ht0⟩ : ∃ q, (u21 * 4294967296 + n0) / 18446744073709532608 = q := ⟨_, rfl⟩
  have x2 : IntKind.u64.wrap (u21.tdiv 4294967295) = g0 := by rw [Int.tdiv_eq_ediv_of_nonneg (by omega), hg0, Nd.w64]; omega
  have x3 : IntKind.u64.wrap (g0 * 4294967295) = g0 * 4294967295 := by rw [Nd.w64]; omega
  have x4 : IntKind.u64.wrap (u21 - g0 * 4294967295) = u21 - g0 * 4294967295 := by rw [Nd.w64]; omega
  have htg : t0 ≤ g0 := by omega
  have x5 : (IntKind.u64.wrap (IntKind.u64.wrap (IntKind.u64.wrap (u21 * 4294967296) + n0) - IntKind.u64.wrap (t0 * 18446744073709532608))) / 16 = z := by
    have : IntKind.u64.wrap (IntKind.u64.wrap (IntKind.u64.wrap (u21 * 4294967296) + n0) - IntKind.u64.wrap (t0 * 18446744073709532608)) = u21 * 4294967296 + n0 - t0 * 18446744073709532608 := by rw [Nd.w64, Nd.w64, Nd.w64, Nd.w64]; omega
    rw [this]
    omega
  have f9 := f7 k0 hkk (Int.le_refl _)
  have f10 := f8 k0 hkk (Int.le_refl _)
  go_enter Tryz.func92, Tryz.ntmps92
  go_wp2_with fail
  refine (hLZ _).mono ?_; rintro e w' ⟨rfl, rfl⟩
  clear hLZ
  go_wp2_with fail
  go_loopw [15, 16] (fun a b wr => ∃ k r : Int, a = .int .u64 k ∧ b = .int .u64 r ∧ r + k * 4294967295 = u32 ∧ q1 ≤ k ∧ k ≤ k0 ∧ r < 4294967296 ∧ w = wr) (fun a _ _ => (intOf a - q1).toNat)
  case atStart => exact ⟨k0, _, rfl, rfl, by omega, by omega, Int.le_refl _, by omega, rfl⟩
  case round =>
    obtain ⟨k, r, rfl, rfl, hr, hk1, hk2, hr2, rfl⟩ := hrel
    have e1 : IntKind.u64.wrap (k - 1) = k - 1 ∨ k = q1 := by rw [Nd.w64]; omega
    have e2 : IntKind.u64.wrap (r + 4294967295) = r + 4294967295 := by rw [Nd.w64]; omega
    have e3 : IntKind.u64.wrap (4294967296 * r) = 4294967296 * r := by rw [Nd.w64]; omega
    have e4 : IntKind.u64.wrap (4294967296 * r + n1) = 4294967296 * r + n1 := by rw [Nd.w64]; omega
    have hc : 4294967296 ≤ k ∨ (¬ 4294967296 ≤ k ∧ 4294967296 * r + n1 < k * 4294948288) ∨ (¬ 4294967296 ≤ k ∧ ¬ 4294967296 * r + n1 < k * 4294948288) := by omega
    have fin : ∀ m, IntKind.u64.wrap (m * 4294948288) = m * 4294948288 ∨ 4294967296 ≤ m ∨ m < 0 := fun m => by rw [Nd.w64]; omega
    rcases hc with hc | ⟨hc, hd⟩ | ⟨hc, hd⟩
    · have hkq : q1 < k := by omega
      have e1 : IntKind.u64.wrap (k - 1) = k - 1 := e1.resolve_right (by omega)
      by_cases hbr : 4294967296 ≤ r + 4294967295
      · have hkk : k - 1 = q1 := by omega
        rw [hkk] at e1
        clear fin
        go_wp2_with fail
        go_loopw [18, 16] (fun a b wr => ∃ k r : Int, a = .int .u64 k ∧ b = .int .u64 r ∧ r + k * 4294967295 = u21 ∧ t0 ≤ k ∧ k ≤ g0 ∧ r < 4294967296 ∧ w = wr) (fun a _ _ => (intOf a - t0).toNat)
        case atStart => exact ⟨g0, _, rfl, rfl, by omega, by omega, Int.le_refl _, by omega, rfl⟩
        case round =>
          obtain ⟨k, r, rfl, rfl, hr, hk1, hk2, hr2, rfl⟩ := hrel
          have e1 : IntKind.u64.wrap (k - 1) = k - 1 ∨ k = t0 := by rw [Nd.w64]; omega
          have e2 : IntKind.u64.wrap (r + 4294967295) = r + 4294967295 := by rw [Nd.w64]; omega
          have e3 : IntKind.u64.wrap (4294967296 * r) = 4294967296 * r := by rw [Nd.w64]; omega
          have e4 : IntKind.u64.wrap (4294967296 * r + n0) = 4294967296 * r + n0 := by rw [Nd.w64]; omega
          have hc : 4294967296 ≤ k ∨ (¬ 4294967296 ≤ k ∧ 4294967296 * r + n0 < k * 4294948288) ∨ (¬ 4294967296 ≤ k ∧ ¬ 4294967296 * r + n0 < k * 4294948288) := by omega
          have fin : ∀ m, IntKind.u64.wrap (m * 4294948288) = m * 4294948288 ∨ 4294967296 ≤ m ∨ m < 0 := fun m => by rw [Nd.w64]; omega
          rcases hc with hc | ⟨hc, hd⟩ | ⟨hc, hd⟩
          · have hkq : t0 < k := by omega
            have e1 : IntKind.u64.wrap (k - 1) = k - 1 := e1.resolve_right (by omega)
            by_cases hbr : 4294967296 ≤ r + 4294967295
            · have hkk : k - 1 = t0 := by omega
              rw [hkk] at e1
              clear fin
              go_wp2_with fail
              go_ret2
              exact ⟨⟨_, rfl⟩, Below.refl _ _⟩
            · go_wp2_with fail
              go_roundw
              case rel => exact ⟨k - 1, r + 4294967295, rfl, rfl, by omega, by omega, by omega, by omega, trivial⟩
              case measure => simp [intOf]; omega
          · have hkq : t0 < k := by omega
            have e1 : IntKind.u64.wrap (k - 1) = k - 1 := e1.resolve_right (by omega)
            have e5 : IntKind.u64.wrap (k * 4294948288) = k * 4294948288 := (fin k).resolve_right (by omega)
            by_cases hbr : 4294967296 ≤ r + 4294967295
            · have hkk : k - 1 = t0 := by omega
              rw [hkk] at e1
              clear fin
              go_wp2_with fail
              go_ret2
              exact ⟨⟨_, rfl⟩, Below.refl _ _⟩
            · go_wp2_with fail
              go_roundw
              case rel => exact ⟨k - 1, r + 4294967295, rfl, rfl, by omega, by omega, by omega, by omega, trivial⟩
              case measure => simp [intOf]; omega
          · obtain rfl : k = t0 := by omega
            have e5 : IntKind.u64.wrap (k * 4294948288) = k * 4294948288 := (fin k).resolve_right (by omega)
            clear fin
            go_wp2_with fail
            go_ret2
            exact ⟨⟨_, rfl⟩, Below.refl _ _⟩
      · go_wp2_with fail
        go_roundw
        case rel => exact ⟨k - 1, r + 4294967295, rfl, rfl, by omega, by omega, by omega, by omega, trivial⟩
        case measure => simp [intOf]; omega
    · have hkq : q1 < k := by omega
      have e1 : IntKind.u64.wrap (k - 1) = k - 1 := e1.resolve_right (by omega)
      have e5 : IntKind.u64.wrap (k * 4294948288) = k * 4294948288 := (fin k).resolve_right (by omega)
      by_cases hbr : 4294967296 ≤ r + 4294967295
      · have hkk : k - 1 = q1 := by omega
        rw [hkk] at e1
        clear fin
        go_wp2_with fail
        go_loopw [18, 16] (fun a b wr => ∃ k r : Int, a = .int .u64 k ∧ b = .int .u64 r ∧ r + k * 4294967295 = u21 ∧ t0 ≤ k ∧ k ≤ g0 ∧ r < 4294967296 ∧ w = wr) (fun a _ _ => (intOf a - t0).toNat)
        case atStart => exact ⟨g0, _, rfl, rfl, by omega, by omega, Int.le_refl _, by omega, rfl⟩
        case round =>
          obtain ⟨k, r, rfl, rfl, hr, hk1, hk2, hr2, rfl⟩ := hrel
          have e1 : IntKind.u64.wrap (k - 1) = k - 1 ∨ k = t0 := by rw [Nd.w64]; omega
          have e2 : IntKind.u64.wrap (r + 4294967295) = r + 4294967295 := by rw [Nd.w64]; omega
          have e3 : IntKind.u64.wrap (4294967296 * r) = 4294967296 * r := by rw [Nd.w64]; omega
          have e4 : IntKind.u64.wrap (4294967296 * r + n0) = 4294967296 * r + n0 := by rw [Nd.w64]; omega
          have hc : 4294967296 ≤ k ∨ (¬ 4294967296 ≤ k ∧ 4294967296 * r + n0 < k * 4294948288) ∨ (¬ 4294967296 ≤ k ∧ ¬ 4294967296 * r + n0 < k * 4294948288) := by omega
          have fin : ∀ m, IntKind.u64.wrap (m * 4294948288) = m * 4294948288 ∨ 4294967296 ≤ m ∨ m < 0 := fun m => by rw [Nd.w64]; omega
          rcases hc with hc | ⟨hc, hd⟩ | ⟨hc, hd⟩
          · have hkq : t0 < k := by omega
            have e1 : IntKind.u64.wrap (k - 1) = k - 1 := e1.resolve_right (by omega)
            by_cases hbr : 4294967296 ≤ r + 4294967295
            · have hkk : k - 1 = t0 := by omega
              rw [hkk] at e1
              clear fin
              go_wp2_with fail
              go_ret2
              exact ⟨⟨_, rfl⟩, Below.refl _ _⟩
            · go_wp2_with fail
              go_roundw
              case rel => exact ⟨k - 1, r + 4294967295, rfl, rfl, by omega, by omega, by omega, by omega, trivial⟩
              case measure => simp [intOf]; omega
          · have hkq : t0 < k := by omega
            have e1 : IntKind.u64.wrap (k - 1) = k - 1 := e1.resolve_right (by omega)
            have e5 : IntKind.u64.wrap (k * 4294948288) = k * 4294948288 := (fin k).resolve_right (by omega)
            by_cases hbr : 4294967296 ≤ r + 4294967295
            · have hkk : k - 1 = t0 := by omega
              rw [hkk] at e1
              clear fin
              go_wp2_with fail
              go_ret2
              exact ⟨⟨_, rfl⟩, Below.refl _ _⟩
            · go_wp2_with fail
              go_roundw
              case rel => exact ⟨k - 1, r + 4294967295, rfl, rfl, by omega, by omega, by omega, by omega, trivial⟩
              case measure => simp [intOf]; omega
          · obtain rfl : k = t0 := by omega
            have e5 : IntKind.u64.wrap (k * 4294948288) = k * 4294948288 := (fin k).resolve_right (by omega)
            clear fin
            go_wp2_with fail
            go_ret2
            exact ⟨⟨_, rfl⟩, Below.refl _ _⟩
      · go_wp2_with fail
        go_roundw
        case rel => exact ⟨k - 1, r + 4294967295, rfl, rfl, by omega, by omega, by omega, by omega, trivial⟩
        case measure => simp [intOf]; omega
    · obtain rfl : k = q1 := by omega
      have e5 : IntKind.u64.wrap (k * 4294948288) = k * 4294948288 := (fin k).resolve_right (by omega)
      clear fin
      go_wp2_with fail
      go_loopw [18, 16] (fun a b wr => ∃ k r : Int, a = .int .u64 k ∧ b = .int .u64 r ∧ r + k * 4294967295 = u21 ∧ t0 ≤ k ∧ k ≤ g0 ∧ r < 4294967296 ∧ w = wr) (fun a _ _ => (intOf a - t0).toNat)
      case atStart => exact ⟨g0, _, rfl, rfl, by omega, by omega, Int.le_refl _, by omega, rfl⟩
      case round =>
        obtain ⟨k, r, rfl, rfl, hr, hk1, hk2, hr2, rfl⟩ := hrel
        have e1 : IntKind.u64.wrap (k - 1) = k - 1 ∨ k = t0 := by rw [Nd.w64]; omega
        have e2 : IntKind.u64.wrap (r + 4294967295) = r + 4294967295 := by rw [Nd.w64]; omega
        have e3 : IntKind.u64.wrap (4294967296 * r) = 4294967296 * r := by rw [Nd.w64]; omega
        have e4 : IntKind.u64.wrap (4294967296 * r + n0) = 4294967296 * r + n0 := by rw [Nd.w64]; omega
        have hc : 4294967296 ≤ k ∨ (¬ 4294967296 ≤ k ∧ 4294967296 * r + n0 < k * 4294948288) ∨ (¬ 4294967296 ≤ k ∧ ¬ 4294967296 * r + n0 < k * 4294948288) := by omega
        have fin : ∀ m, IntKind.u64.wrap (m * 4294948288) = m * 4294948288 ∨ 4294967296 ≤ m ∨ m < 0 := fun m => by rw [Nd.w64]; omega
        rcases hc with hc | ⟨hc, hd⟩ | ⟨hc, hd⟩
        · have hkq : t0 < k := by omega
          have e1 : IntKind.u64.wrap (k - 1) = k - 1 := e1.resolve_right (by omega)
          by_cases hbr : 4294967296 ≤ r + 4294967295
          · have hkk : k - 1 = t0 := by omega
            rw [hkk] at e1
            clear fin
            go_wp2_with fail
            go_ret2
            exact ⟨⟨_, rfl⟩, Below.refl _ _⟩
          · go_wp2_with fail
            go_roundw
            case rel => exact ⟨k - 1, r + 4294967295, rfl, rfl, by omega, by omega, by omega, by omega, trivial⟩
            case measure => simp [intOf]; omega
        · have hkq : t0 < k := by omega
          have e1 : IntKind.u64.wrap (k - 1) = k - 1 := e1.resolve_right (by omega)
          have e5 : IntKind.u64.wrap (k * 4294948288) = k * 4294948288 := (fin k).resolve_right (by omega)
          by_cases hbr : 4294967296 ≤ r + 4294967295
          · have hkk : k - 1 = t0 := by omega
            rw [hkk] at e1
            clear fin
            go_wp2_with fail
            go_ret2
            exact ⟨⟨_, rfl⟩, Below.refl _ _⟩
          · go_wp2_with fail
            go_roundw
            case rel => exact ⟨k - 1, r + 4294967295, rfl, rfl, by omega, by omega, by omega, by omega, trivial⟩
            case measure => simp [intOf]; omega
        · obtain rfl : k = t0 := by omega
          have e5 : IntKind.u64.wrap (k * 4294948288) = k * 4294948288 := (fin k).resolve_right (by omega)
          clear fin
          go_wp2_with fail
          go_ret2
          exact ⟨⟨_, rfl⟩, Below.refl _ _⟩

end Go.Proofs.YtlaidjgdipacgaaGreatDoor
