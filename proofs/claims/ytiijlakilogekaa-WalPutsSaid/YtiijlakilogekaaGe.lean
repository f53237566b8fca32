/-
  Walks over greatsealref20: all, Check, Sync, frame.
-/
import Derived.Test.YtiijlakilogekaaGd
namespace Go.Proofs.Ytiijlakilogekaa
open Go.RowKit

set_option maxRecDepth 100000 in
set_option maxHeartbeats 2000000 in
theorem Rall_any (v1 v2 : Value) (S O : List Int) (w : World) (rS : Row .u8 w v1 S) (rO : Row .u8 w v2 O) (n1 : S.length ≤ 100000) (n2 : O.length ≤ 100000) :
    Calls Try.prog 23 #[.agg #[v1, v2]] w fun e w' => ∃ v', e = .returned v' ∧ w'.ownsRow w.heap.size 5 1 v' (S ++ O).length ((S ++ O).map (Value.int .u8)) ∧ Below w.heap.size w w' := by
  obtain ⟨j0, gi, gz0, gz1, gz2⟩ := info_parts info_byte20
  obtain ⟨a1, c1, rfl⟩ := rS.shape S.length rfl
  obtain ⟨a2, c2, rfl⟩ := rO.shape O.length rfl
  obtain ⟨A, hA⟩ : ∃ A, S ++ O = A := ⟨_, rfl⟩
  rw [hA]
  have HA := Lib.hid hA
  clear hA
  have dS := Duo.new w 24 (.slice a1 S.length c1) (.slice a2 O.length c2)
  have hB := (Below.refl w.heap.size w).alloc (Nat.le_refl _) (.cells #[.slice a1 S.length c1, .slice a2 O.length c2] 24)
  have rS := rS.alloc (.cells #[.slice a1 S.length c1, .slice a2 O.length c2] 24)
  have rO := rO.alloc (.cells #[.slice a1 S.length c1, .slice a2 O.length c2] 24)
  go_enter Try.func23, Try.ntmps23
  go_wp2_with fail
  have hsz : w.heap.size < (w.alloc (.cells #[.slice a1 S.length c1, .slice a2 O.length c2] 24)).heap.size := dS.lt
  generalize hV : w.alloc (.cells #[.slice a1 S.length c1, .slice a2 O.length c2] 24) = V at *
  clear hV
  obtain ⟨g, hg⟩ : ∃ g, w.heap.size = g := ⟨_, rfl⟩
  have HG := Lib.hid hg
  have c0 := dS.cell0; have c1' := dS.cell1
  rw [hg] at c0 c1' hsz dS
  (try rw [hg])
  have hw0 : Below V.heap.size V V.drew := bel_drew (Below.refl _ _)
  go_region_held3 (fun w' => w'.cell? ⟨g, 0, none⟩ = some (.slice a1 S.length c1) ∧ w'.cell? ⟨g, 1, none⟩ = some (.slice a2 O.length c2))
    (first | go_keep | (refine ⟨?_, ?_⟩ <;> assumption))
    (first
      | (rw [if_pos (by rfl)]; refine wp_append_bytes (w0 := V) (.tmp 3) (.tmp 5) 22 rfl 5 j0 (.int .u8 0) Try.underlying22 gi gz0 gz1 gz2 rfl (hw0.alloc (Nat.le_refl _) _) _ [] rfl (owns_empty V.drew V.heap.size 5 (Nat.le_refl _)) _ S rS rfl (by simp; omega) ?_
         intro va wa oa ba za da
         rw [List.nil_append] at oa
         obtain ⟨aa, ca, rfl, ra, pa⟩ := row_of_owned oa rS.all_byte
         have bda := dS.stp ba
         have e0 := bda.cell0; have e1 := bda.cell1)
      | (rw [if_pos (by rfl)]; refine wp_append_bytes (w0 := V) (.tmp 6) (.tmp 8) 22 rfl 5 j0 (.int .u8 0) Try.underlying22 gi gz0 gz1 gz2 rfl ba _ S rfl oa _ O rO rfl (by omega) ?_
         intro vb wb ob bb zb db
         rw [HA.out] at ob
         obtain ⟨xb, nb, mb, rfl⟩ := owns_slice ob
         have bdb := dS.stp bb
         have e2 := bdb.cell0; have e3 := bdb.cell1
         have hend := hB.trans (bb.mono (by rw [HG.out]; omega))))
  all_goals
    go_wp2_with fail
    go_ret
    exact ⟨_, rfl, owns_low ob (by rw [HG.out]; omega), hend⟩

set_option maxHeartbeats 400000 in
theorem RCheck_ok (v1 v2 : Value) (S O : List Int) (w : World) (h1 : Row .u8 w v1 S) (h2 : Row .u8 w v2 O) (n : S.length + O.length ≤ 65536) :
    Calls Try.prog 12 #[.agg #[v1, v2]] w fun e w' => e = .returned (.int .i64 0) ∧ Below w.heap.size w w' := by
  obtain ⟨a1, c1, rfl, -⟩ := h1
  obtain ⟨a2, c2, rfl, -⟩ := h2
  have e : IntKind.i64.wrap ((S.length : Int) + O.length) = (S.length : Int) + O.length := IntWalk.i64_in _ (by omega)
  go_enter Try.func12, Try.ntmps12
  go_wp2
  go_ret
  exact ⟨rfl, (Below.refl _ _).alloc (Nat.le_refl _) _⟩

theorem and255 (x : Int) (h0 : 0 ≤ x) (h1 : x < 9223372036854775808) : bits BinOp.and IntKind.i64 x 255 = x % 256 := by
  have two63 : (2 : Int) ^ 63 = 9223372036854775808 := by decide
  have h := bits_mask .i64 63 (by decide) (fun n h0 h1 => by rw [two63] at h1; rw [IntKind.wrap_i64]; omega) 8 (by decide) x h0 (by rw [two63]; omega)
  have e : ((2 : Int) ^ 8 - 1) = 255 := by decide
  rw [e] at h
  rw [h]; rfl

set_option maxRecDepth 100000 in
set_option maxHeartbeats 2000000 in
theorem Rframe_any (v : Value) (l : List Int) (w : World) (h : Row .u8 w v l) (hl : l.length ≤ 10000) :
    Calls Try.prog 21 #[v] w fun e w' => ∃ v', e = .returned v' ∧ w'.ownsRow w.heap.size 5 1 v' (Wm.frame l).length ((Wm.frame l).map (Value.int .u8)) ∧ Below w.heap.size w w' := by
  obtain ⟨j0, gi, gz0, gz1, gz2⟩ := info_parts info_byte20
  obtain ⟨a1, c1, rfl⟩ := h.shape l.length rfl
  obtain ⟨b0, hb0⟩ : ∃ b : Int, (l.length : Int) / 16777216 % 256 = b := ⟨_, rfl⟩
  obtain ⟨b1, hb1⟩ : ∃ b : Int, (l.length : Int) / 65536 % 256 = b := ⟨_, rfl⟩
  obtain ⟨b2, hb2⟩ : ∃ b : Int, (l.length : Int) / 256 % 256 = b := ⟨_, rfl⟩
  obtain ⟨b3, hb3⟩ : ∃ b : Int, (l.length : Int) % 256 = b := ⟨_, rfl⟩
  have e0 : bits BinOp.and IntKind.i64 ((l.length : Int) / 16777216) 255 = b0 := by rw [and255 _ (by omega) (by omega), hb0]
  have e1 : bits BinOp.and IntKind.i64 ((l.length : Int) / 65536) 255 = b1 := by rw [and255 _ (by omega) (by omega), hb1]
  have e2 : bits BinOp.and IntKind.i64 ((l.length : Int) / 256) 255 = b2 := by rw [and255 _ (by omega) (by omega), hb2]
  have e3 : bits BinOp.and IntKind.i64 (l.length : Int) 255 = b3 := by rw [and255 _ (by omega) (by omega), hb3]
  have m0 : b0 % 256 = b0 := by omega
  have m1 : b1 % 256 = b1 := by omega
  have m2 : b2 % 256 = b2 := by omega
  have m3 : b3 % 256 = b3 := by omega
  obtain ⟨H4, hH4⟩ : ∃ H, [b0, b1, b2, b3] = H := ⟨_, rfl⟩
  have hbe : Hm.be 4 (l.length : Int) = H4 := by rw [← hH4, ← hb0, ← hb1, ← hb2, ← hb3]; simp [Hm.be]
  have hH4l : H4.length = 4 := by rw [← hH4]; rfl
  obtain ⟨D, hD⟩ : ∃ D, Hm.bytes l = D := ⟨_, rfl⟩
  have hDb : ∀ x ∈ D, byte x := by rw [← hD]; exact Hm.bytes_byte l
  have hDl : D.length = 16 := by rw [← hD]; exact Hm.bytes_length l
  have hfr : Wm.frame l = H4 ++ l ++ D := by unfold Wm.frame; rw [hbe, hD]
  rw [hfr]
  have hds : Hm.be 8 (Hm.sum l).a ++ Hm.be 8 (Hm.sum l).b = D := by rw [← hD]; rfl
  have HDS := Lib.hid hds; have HDb := Lib.hid hDb; have HDl := Lib.hid hDl; have HH4 := Lib.hid hH4; have HH4l := Lib.hid hH4l
  have o4 : (w.alloc (.cells #[.int .u8 b0, .int .u8 b1, .int .u8 b2, .int .u8 b3] 5)).ownsRow w.heap.size 5 1 (.slice (some ⟨w.heap.size, 0, none⟩) 4 4) H4.length (H4.map (Value.int .u8)) := by
    rw [← hH4]
    exact ⟨rfl, .inr ⟨w.heap.size, 4, #[.int .u8 b0, .int .u8 b1, .int .u8 b2, .int .u8 b3], rfl, Nat.le_refl _, by show (w.heap.push _)[w.heap.size]? = _; simp, Nat.le_refl _, by unfold maxLen; omega, rfl, rfl⟩⟩
  clear hb0 hb1 hb2 hb3 hbe hds hDb hDl hH4 hH4l hD hfr
  go_enter Try.func21, Try.ntmps21
  go_wp2_with (first
    | (at_builtin; refine wpList_plain rfl fun Kx hKx => ?_; refine wp_append_bytes2 (.tmp 23) (.tmp 24) 22 rfl 5 j0 (.int .u8 0) Try.underlying22 gi gz0 gz1 gz2 rfl w.heap.size (by simp) _ H4 rfl o4 _ l (h.alloc _) rfl (by rw [HH4l.out]; omega) ?_; intro va wa oa ba za da; refine hKx _ _ ?_)
    | fail)
  have hB1 : Below w.heap.size w wa := ((Below.refl _ w).alloc (Nat.le_refl _) (.cells #[.int .u8 b0, .int .u8 b1, .int .u8 b2, .int .u8 b3] 5)).trans ba
  refine (RSum_any _ l _ (h.below hB1) (by omega)).mono ?_; rintro e ws ⟨rfl, bs⟩
  have hB2 := bel_stp hB1 bs
  go_wp2_with fail
  refine (RBytes_any _ _ _).mono ?_; rintro e wy ⟨vy, rfl, oy, by'⟩
  rw [HDS.out] at oy
  have hB3 := bel_stp hB2 by'
  have oa3 := owns_below (owns_below oa bs) by'
  go_wp2_with (first
    | (at_builtin; refine wpList_plain rfl fun Kx hKx => ?_; refine wp_append_bytes2 (.tmp 26) (.tmp 29) 22 rfl 5 j0 (.int .u8 0) Try.underlying22 gi gz0 gz1 gz2 rfl w.heap.size hB3.size _ (H4 ++ l) rfl oa3 _ D (owns_row oy HDb.out) rfl (by rw [List.length_append, HH4l.out, HDl.out]; omega) ?_; intro vz wz oz bz zz dz; refine hKx _ _ ?_)
    | fail)
  go_ret
  exact ⟨_, rfl, oz, hB3.trans bz⟩
end Go.Proofs.Ytiijlakilogekaa
