/-
  Walks over greatsealref02: Eight, Bytes; greatsealref20: all, frame.
-/
import Derived.Test.YtiijlakilogekaaGb
import Derived.Test.YtiijlakilogekaaRb
namespace Go.Proofs.Ytiijlakilogekaa
open Go.RowKit

set_option maxRecDepth 100000 in
set_option maxHeartbeats 2000000 in
theorem REight_any (n : Int) (w : World) :
    Calls Try.prog 36 #[.int .u64 n] w fun e w' => ∃ v', e = .returned v' ∧ w'.ownsRow w.heap.size 5 1 v' (Hm.be 8 n).length ((Hm.be 8 n).map (Value.int .u8)) ∧ Below w.heap.size w w' := by
  obtain ⟨base, hbase⟩ : ∃ b, w.heap.size = b := ⟨_, rfl⟩
  rw [hbase]
  have hbr : Below base w w := Below.refl _ _
  obtain ⟨k, hk8⟩ : ∃ k, k = 8 := ⟨8, rfl⟩
  have hk : k ≤ 8 := by omega
  rw [← hk8]
  have HK8 := Lib.hid hk8
  obtain ⟨i0, hi, hz⟩ := Option.map_eq_some_iff.1 info_u8
  injection hz with hz0 hz; injection hz with hz1 hz2
  go_enter Try.func36, Try.ntmps36
  go_wp2_with fail
  go_loopw [3, 4] (fun v i wr => ∃ (j : Nat) (p : List Int), j ≤ k ∧ i = .int .i64 ((j : Int) - 1) ∧ p ++ Hm.be j n = Hm.be k n ∧ wr.ownsRow base 5 1 v p.length (p.map (Value.int .u8)) ∧ Below base w wr) (fun _ i _ => (intOf i + 1).toNat)
  case atStart => exact ⟨k, [], by omega, by rw [HK8.out]; rfl, rfl, World.ownsRow_nil _ _ _ _, hbr⟩
  case round =>
    obtain ⟨j, p, hj, rfl, hp, hr, hb⟩ := hrel
    have hpl : p.length + j = k := by
      have := congrArg List.length hp
      simpa [Hm.be_length] using this
    by_cases hlt : 1 ≤ j
    · obtain ⟨m, rfl⟩ : ∃ m, j = m + 1 := ⟨j - 1, by omega⟩
      have em : ((m + 1 : Nat) : Int) - 1 = m := by omega
      rw [em]
      obtain ⟨c, ec⟩ : ∃ c, n / 256 ^ m % 256 = c := ⟨_, rfl⟩
      have hc : 0 ≤ c ∧ c < 256 := by rw [← ec]; exact ⟨Int.emod_nonneg _ (by omega), Int.emod_lt_of_pos _ (by omega)⟩
      have e2 : n / 2 ^ (8 * m) % 256 = c := by
        rw [← ec, Int.pow_mul, show ((2 : Int) ^ 8) = 256 by decide]
      have hs := be_succ m n
      rw [ec] at hs
      rw [hs] at hp
      have Hp' := Lib.hid hp
      have Hc := Lib.hid hc
      clear hs ec hc hp
      have e1 : IntKind.i64.wrap (8 * (m : Int)) = 8 * (m : Int) := IntWalk.i64_in _ (by omega)
      go_wp2_with (at_builtin; rw [e2]; refine wpList_append_own _ rfl _ _ 22 rfl base 5 i0 (.int .u8 0) 1 1 Try.underlying22 hi hz0 hz1 hz2 rfl (by decide) _ _ _ rfl (hr.alloc _) ⟨wr.heap.size, 0, none⟩ 1 1 [.int .u8 c] rfl rfl (cell_one_new _ _ _) (by simp [Value.oneCell']) (by unfold maxLen; omega) (by omega) (by have := hb.size; simp; omega) ?_; intro v' w1 hown' hgrow _)
      all_goals
        have hown2 : w1.ownsRow base 5 1 v' (p ++ [c]).length ((p ++ [c]).map (Value.int .u8)) := by
          rw [List.map_append, List.length_append]; exact hown'
        have hb2 : Below base w w1 := (hb.alloc (by have := hb.size; omega) _).grown hgrow (by have := hb.size; simp; omega) (fun k e => own_above hr (by exact e))
        exact ⟨⟨m, p ++ [c], by omega, rfl, by rw [List.append_assoc]; exact Hp'.out, hown2, hb2⟩, by simp [intOf]⟩
    · obtain rfl : j = 0 := by omega
      have hpe : p = Hm.be k n := by simpa [Hm.be] using hp
      subst hpe
      go_wp2_with fail
      go_ret
      exact ⟨_, rfl, hr, hb⟩

theorem owns_row {w : World} {base : Nat} {v : Value} {l : List Int} (h : w.ownsRow base 5 1 v l.length (l.map (Value.int .u8))) (hl : ∀ x ∈ l, byte x) : Row .u8 w v l := Row.of_bytes h hl
theorem owns_low {w : World} {base b : Nat} {e : TypeId} {v : Value} {n : Nat} {xs : List Value} (h : w.ownsRow base e 1 v n xs) (hb : b ≤ base) : w.ownsRow b e 1 v n xs := owns_base h hb

set_option maxRecDepth 100000 in
set_option maxHeartbeats 2000000 in
theorem RBytes_any (a b : Int) (w : World) :
    Calls Try.prog 28 #[.agg #[.int .u64 a, .int .u64 b]] w fun e w' => ∃ v', e = .returned v' ∧ w'.ownsRow w.heap.size 5 1 v' (Hm.be 8 a ++ Hm.be 8 b).length ((Hm.be 8 a ++ Hm.be 8 b).map (Value.int .u8)) ∧ Below w.heap.size w w' := by
  obtain ⟨j0, gi, gz0, gz1, gz2⟩ := info_parts info_byte20
  have dS := Duo.new w 52 (.int .u64 a) (.int .u64 b)
  have hB := (Below.refl w.heap.size w).alloc (Nat.le_refl _) (.cells #[.int .u64 a, .int .u64 b] 52)
  have la : (Hm.be 8 a).length = 8 := Hm.be_length 8 a
  have lb : (Hm.be 8 b).length = 8 := Hm.be_length 8 b
  have ya := Hm.be_byte 8 a
  have yb := Hm.be_byte 8 b
  obtain ⟨A, hA⟩ : ∃ A, Hm.be 8 a = A := ⟨_, rfl⟩
  obtain ⟨C, hC⟩ : ∃ C, Hm.be 8 b = C := ⟨_, rfl⟩
  rw [hA] at la ya ⊢
  rw [hC] at lb yb ⊢
  have HA := Lib.hid hA; have HC := Lib.hid hC; have YA := Lib.hid ya; have YB := Lib.hid yb; have LA := Lib.hid la; have LB := Lib.hid lb
  clear hA hC ya yb la lb
  go_enter Try.func28, Try.ntmps28
  go_wp2_with fail
  have hsz : w.heap.size < (w.alloc (.cells #[.int .u64 a, .int .u64 b] 52)).heap.size := dS.lt
  generalize hV : w.alloc (.cells #[.int .u64 a, .int .u64 b] 52) = V at *
  clear hV
  obtain ⟨g, hg⟩ : ∃ g, w.heap.size = g := ⟨_, rfl⟩
  have HG := Lib.hid hg
  have c0 := dS.cell0; have c1 := dS.cell1
  rw [hg] at c0 c1 hsz dS
  (try rw [hg])
  have hw0 : Below V.heap.size V V.drew := bel_drew (Below.refl _ _)
  go_region_held3 (fun w' => w'.cell? ⟨g, 0, none⟩ = some (.int .u64 a) ∧ w'.cell? ⟨g, 1, none⟩ = some (.int .u64 b))
    (first | go_keep | (refine ⟨?_, ?_⟩ <;> assumption))
    (first
      | (go_at_call 36; refine (REight_any _ _).mono ?_; rintro e wx ⟨vx, rfl, ox, bx⟩
         have sx := bx.size
         first
           | (rw [HA.out] at ox; (first | (have wA := bel_stp hw0 bx) | (have wA := bel_stp wB bx)); (first | (replace ob := owns_below ob bx) | skip); have oa := ox; have sa := sx; have ca0 := (dS.stp wA).cell0; have ca1 := (dS.stp wA).cell1; have wL := wA)
           | (rw [HC.out] at ox; (first | (have wB := bel_stp wA bx) | (have wB := bel_stp hw0 bx)); (first | (replace oa := owns_below oa bx) | skip); have ob := ox; have sb := sx; have cb0 := (dS.stp wB).cell0; have cb1 := (dS.stp wB).cell1; have wL := wB)
         clear bx sx
         obtain ⟨xx, nx, mx, rfl⟩ := owns_slice ox
         clear ox)
      | (rw [if_pos (by rfl)]; refine wp_append_bytes2 (.tmp 5) (.tmp 8) 22 rfl 5 j0 (.int .u8 0) Try.underlying22 gi gz0 gz1 gz2 rfl V.heap.size (by have := wL.size; omega) _ A rfl (owns_low oa (by (first | exact Nat.le_refl _ | (have := wB.size; omega)))) _ C (owns_row ob YB.out) rfl (by rw [LA.out, LB.out]; omega) ?_
         intro vc wc oc bc zc dc
         have wC := wL.trans bc
         have cc0 := (dS.stp wC).cell0; have cc1 := (dS.stp wC).cell1
         have hend := hB.trans (wC.mono (by rw [HG.out]; omega))
         obtain ⟨xc, nc, mc, rfl⟩ := owns_slice oc))
  all_goals
    go_wp2_with fail
    go_ret
    exact ⟨_, rfl, owns_low oc (by rw [HG.out]; omega), hend⟩
end Go.Proofs.Ytiijlakilogekaa
