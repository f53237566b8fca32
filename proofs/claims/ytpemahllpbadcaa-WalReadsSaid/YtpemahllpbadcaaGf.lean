/-
  Walks over greatsealref20: Sync, Crash.
-/
import Derived.Test.YtpemahllpbadcaaGe
import Derived.Test.YtpemahllpbadcaaRs
namespace Go.Proofs.Ytpemahllpbadcaa
open Go.RowKit

set_option maxRecDepth 100000 in
set_option maxHeartbeats 2000000 in
theorem RSync_of (v1 v2 : Value) (S O b : List Int) (w : World) (h1 : Row .u8 w v1 S) (h2 : Row .u8 w v2 O) (n : S.length + O.length ≤ 65536) (hb : S ++ O = b) :
    Calls Try.prog 16 #[.agg #[v1, v2]] w fun e w' => ∃ a c, e = .returned (.tuple #[.agg #[.slice a b.length c, .slice none 0 0], .int .i64 0]) ∧ Row .u8 w' (.slice a b.length c) b ∧ Below w.heap.size w w' := by
  have hby : ∀ x ∈ b, byte x := by
    intro x hx
    rw [← hb] at hx
    rcases List.mem_append.1 hx with h | h
    · exact h1.all_byte x h
    · exact h2.all_byte x h
  have HBy := Lib.hid hby; have HB := Lib.hid hb
  clear hby hb
  obtain ⟨a1, c1, rfl⟩ := h1.shape S.length rfl
  obtain ⟨a2, c2, rfl⟩ := h2.shape O.length rfl
  obtain ⟨B, hB⟩ : ∃ B, w.heap.size = B := ⟨_, rfl⟩
  have dS := (Duo.new w 24 (.slice a1 S.length c1) (.slice a2 O.length c2)).alloc (.cells #[.slice none 0 0, .slice none 0 0] 24)
  have dX := Duo.new (w.alloc (.cells #[.slice a1 S.length c1, .slice a2 O.length c2] 24)) 24 (.slice none 0 0) (.slice none 0 0)
  have hbl := bel_alloc (bel_alloc (Below.refl w.heap.size w) (.cells #[.slice a1 S.length c1, .slice a2 O.length c2] 24)) (.cells #[.slice none 0 0, .slice none 0 0] 24)
  have r1 := (h1.alloc (.cells #[.slice a1 S.length c1, .slice a2 O.length c2] 24)).alloc (.cells #[.slice none 0 0, .slice none 0 0] 24)
  have r2 := (h2.alloc (.cells #[.slice a1 S.length c1, .slice a2 O.length c2] 24)).alloc (.cells #[.slice none 0 0, .slice none 0 0] 24)
  rw [World.size_alloc] at dX
  rw [hB] at dS dX
  go_enter Try.func16, Try.ntmps16
  go_wp2_with fail
  (try rw [hB])
  refine (RCheck_ok _ _ S O _ r1 r2 n).mono ?_; rintro e w1 ⟨rfl, hb1⟩
  replace hbl := bel_stp hbl hb1
  replace dS := dS.stp hb1
  replace dX := dX.stp hb1
  replace r1 := r1.stp hb1
  replace r2 := r2.stp hb1
  clear hb1 h1 h2
  have s0 := dS.cell0; have s1 := dS.cell1
  go_wp2_with fail
  refine (Rall_any _ _ S O _ r1 r2 (by omega) (by omega)).mono ?_; rintro e w2 ⟨r, rfl, ho, hb2⟩
  rw [HB.out] at ho
  have hpast := fun g (hg : g < w1.heap.size) => Past.off (n := w1.heap.size) (g := g) (v := r) (fun b o l c e => own_above ho (by rw [e]; rfl)) hg
  have ltX := dX.lt
  have hoX := hpast (B + 1) ltX
  have rr := owns_row ho HBy.out
  obtain ⟨ar, cr, rfl⟩ := rr.shape b.length rfl
  replace hbl := bel_stp hbl hb2
  replace dX := dX.stp hb2
  clear s0 s1 dS r1 r2 hb2 hpast ho
  have x0 := dX.cell0; have x1 := dX.cell1; have x2 := dX.free 0; have x3 := dX.free 1
  go_wp2_with fail
  have hz : Duo ((w2.setCell ⟨B + 1, 0, none⟩ (.slice ar b.length cr)).setCell ⟨B + 1, 1, none⟩ (.slice none 0 0)) (B + 1) 24 (.slice ar b.length cr) (.slice none 0 0) := (dX.set0 _).set1 _
  refine bodyPost_ret (results_cell_tmp rfl _ _ (B + 1) _ _ _ _ rfl hz rfl rfl rfl) rfl ⟨ar, cr, rfl, (rr.aside hoX _).aside hoX _, ?_⟩
  exact bel_set (bel_set hbl (by rw [hB]; simp) _) (by rw [hB]; simp) _

set_option maxRecDepth 100000 in
set_option maxHeartbeats 2000000 in
theorem RCrash_yes (v1 v2 : Value) (S O b : List Int) (k : Nat) (w : World) (h1 : Row .u8 w v1 S) (h2 : Row .u8 w v2 O) (n : S.length + O.length ≤ 65536) (hk : k ≤ O.length) (hb : S ++ O.take k = b) :
    Calls Try.prog 23 #[.agg #[v1, v2], .int .i64 k] w fun e w' => ∃ a c, e = .returned (.tuple #[.agg #[.slice a b.length c, .slice none 0 0], .int .i64 0]) ∧ Row .u8 w' (.slice a b.length c) b ∧ Below w.heap.size w w' := by
  obtain ⟨j0, gi, gz0, gz1, gz2⟩ := info_parts info_byte20
  have hby : ∀ x ∈ b, byte x := by
    intro x hx
    rw [← hb] at hx
    rcases List.mem_append.1 hx with h | h
    · exact h1.all_byte x h
    · exact h2.all_byte x (List.mem_of_mem_take h)
  have HBy := Lib.hid hby; have HB := Lib.hid hb
  clear hby hb
  obtain ⟨a1, c1, rfl⟩ := h1.shape S.length rfl
  obtain ⟨a2, c2, rfl⟩ := h2.shape O.length rfl
  have hc2 : O.length ≤ c2 := by obtain ⟨_, _, e, h, _⟩ := h2; cases e; exact h
  have hkc : (k : Int) ≤ (c2 : Int) := by omega
  have hkn : ¬ (O.length : Int) < (k : Int) := by omega
  obtain ⟨Q, hQ⟩ : ∃ Q, O.take k = Q := ⟨_, rfl⟩
  have hQl : Q.length = k := by rw [← hQ]; simp; omega
  have HQ := Lib.hid hQ; have HQl := Lib.hid hQl
  clear hQ hQl
  obtain ⟨B, hB⟩ : ∃ B, w.heap.size = B := ⟨_, rfl⟩
  have dS := (Duo.new w 24 (.slice a1 S.length c1) (.slice a2 O.length c2)).alloc (.cells #[.slice none 0 0, .slice none 0 0] 24)
  have dX := Duo.new (w.alloc (.cells #[.slice a1 S.length c1, .slice a2 O.length c2] 24)) 24 (.slice none 0 0) (.slice none 0 0)
  have hbl := bel_alloc (bel_alloc (Below.refl w.heap.size w) (.cells #[.slice a1 S.length c1, .slice a2 O.length c2] 24)) (.cells #[.slice none 0 0, .slice none 0 0] 24)
  have r1 := (h1.alloc (.cells #[.slice a1 S.length c1, .slice a2 O.length c2] 24)).alloc (.cells #[.slice none 0 0, .slice none 0 0] 24)
  have r2 := (h2.alloc (.cells #[.slice a1 S.length c1, .slice a2 O.length c2] 24)).alloc (.cells #[.slice none 0 0, .slice none 0 0] 24)
  rw [World.size_alloc] at dX
  rw [hB] at dS dX
  go_enter Try.func23, Try.ntmps23
  go_wp2_with fail
  (try rw [hB])
  refine (RCheck_ok _ _ S O _ r1 r2 n).mono ?_; rintro e V ⟨rfl, hb1⟩
  replace hbl := bel_stp hbl hb1
  replace dS := dS.stp hb1
  replace dX := dX.stp hb1
  replace r1 := r1.stp hb1
  replace r2 := r2.stp hb1
  have r3 := r2.take k hk
  rw [HQ.out] at r3
  clear hb1 h1 h2
  have s0 := dS.cell0; have s1 := dS.cell1
  go_wp2_with fail
  have x0 := dX.cell0; have x1 := dX.cell1; have x2 := dX.free 0; have x3 := dX.free 1
  have ltS := dS.lt; have ltX := dX.lt
  have n1 : ¬ B = V.heap.size := by omega
  have n2 : ¬ B + 1 = V.heap.size := by omega
  have hw0 : Below V.heap.size V V.drew := bel_drew (Below.refl _ _)
  go_region_held3 (fun w' => w'.cell? ⟨B, 0, none⟩ = some (.slice a1 S.length c1) ∧ w'.cell? ⟨B, 1, none⟩ = some (.slice a2 O.length c2))
    (first | go_keep | (refine ⟨?_, ?_⟩ <;> assumption))
    (first
      | (rw [if_pos (by rfl)]; refine wp_append_bytes (w0 := V) (.tmp 20) (.tmp 22) 22 rfl 5 j0 (.int .u8 0) Try.underlying22 gi gz0 gz1 gz2 rfl (hw0.alloc (Nat.le_refl _) _) _ [] rfl (owns_empty V.drew V.heap.size 5 (Nat.le_refl _)) _ S r1 rfl (by simp; omega) ?_
         intro va wa oa ba za da
         rw [List.nil_append] at oa
         obtain ⟨aa, ca, rfl, ra, pa⟩ := row_of_owned oa r1.all_byte
         have bda := dS.stp ba
         have e0 := bda.cell0; have e1 := bda.cell1)
      | (rw [if_pos (by rfl)]; refine wp_append_bytes (w0 := V) (.tmp 23) (.tmp 27) 22 rfl 5 j0 (.int .u8 0) Try.underlying22 gi gz0 gz1 gz2 rfl ba _ S rfl oa _ Q r3 rfl (by rw [HQl.out]; omega) ?_
         intro vb wb ob bb zb db
         rw [← HQ.out, HB.out] at ob
         obtain ⟨ab, cb, rfl, rb, pb⟩ := row_of_owned ob HBy.out
         have bdb := dS.stp bb
         have bdx := dX.stp bb
         have e2 := bdb.cell0; have e3 := bdb.cell1
         have y0 := bdx.cell0; have y1 := bdx.cell1; have y2 := bdx.free 0; have y3 := bdx.free 1))
  all_goals
    go_wp2_with fail
    have oX : Off (B + 1) (.slice ab b.length cb) := pb.off (by omega)
    have hz : Duo ((wb.setCell ⟨B + 1, 0, none⟩ (.slice ab b.length cb)).setCell ⟨B + 1, 1, none⟩ (.slice none 0 0)) (B + 1) 24 (.slice ab b.length cb) (.slice none 0 0) := (bdx.set0 _).set1 _
    refine bodyPost_ret (results_cell_tmp rfl _ _ (B + 1) _ _ _ _ rfl hz rfl rfl rfl) rfl ⟨ab, cb, rfl, (rb.aside oX _).aside oX _, ?_⟩
    exact bel_set (bel_set (bel_stp hbl bb) (by rw [hB]; simp) _) (by rw [hB]; simp) _

set_option maxRecDepth 100000 in
set_option maxHeartbeats 2000000 in
theorem RCrash_no (v1 v2 : Value) (S O : List Int) (k : Int) (w : World) (h1 : Row .u8 w v1 S) (h2 : Row .u8 w v2 O) (n : S.length + O.length ≤ 65536) (hk : k < 0 ∨ (O.length : Int) < k) :
    Calls Try.prog 23 #[.agg #[v1, v2], .int .i64 k] w fun e w' => e = .returned (.tuple #[.agg #[.slice none 0 0, .slice none 0 0], .int .i64 1]) ∧ Below w.heap.size w w' := by
  obtain ⟨a1, c1, rfl⟩ := h1.shape S.length rfl
  obtain ⟨a2, c2, rfl⟩ := h2.shape O.length rfl
  obtain ⟨B, hB⟩ : ∃ B, w.heap.size = B := ⟨_, rfl⟩
  have dS := (Duo.new w 24 (.slice a1 S.length c1) (.slice a2 O.length c2)).alloc (.cells #[.slice none 0 0, .slice none 0 0] 24)
  have dX := Duo.new (w.alloc (.cells #[.slice a1 S.length c1, .slice a2 O.length c2] 24)) 24 (.slice none 0 0) (.slice none 0 0)
  have hbl := bel_alloc (bel_alloc (Below.refl w.heap.size w) (.cells #[.slice a1 S.length c1, .slice a2 O.length c2] 24)) (.cells #[.slice none 0 0, .slice none 0 0] 24)
  have r1 := (h1.alloc (.cells #[.slice a1 S.length c1, .slice a2 O.length c2] 24)).alloc (.cells #[.slice none 0 0, .slice none 0 0] 24)
  have r2 := (h2.alloc (.cells #[.slice a1 S.length c1, .slice a2 O.length c2] 24)).alloc (.cells #[.slice none 0 0, .slice none 0 0] 24)
  rw [World.size_alloc] at dX
  rw [hB] at dS dX
  rcases hk with hk | hk
  all_goals
    go_enter Try.func23, Try.ntmps23
    go_wp2_with fail
    (try rw [hB])
    refine (RCheck_ok _ _ S O _ r1 r2 n).mono ?_; rintro e V ⟨rfl, hb1⟩
    have hbl := bel_stp hbl hb1
    have dS := dS.stp hb1
    have dX := dX.stp hb1
    have s0 := dS.cell0; have s1 := dS.cell1
    have x0 := dX.cell0; have x1 := dX.cell1; have x2 := dX.free 0; have x3 := dX.free 1
    go_wp2_with fail
    have hz : Duo ((V.setCell ⟨B + 1, 0, none⟩ (.slice none 0 0)).setCell ⟨B + 1, 1, none⟩ (.slice none 0 0)) (B + 1) 24 (.slice none 0 0) (.slice none 0 0) := (dX.set0 _).set1 _
    refine bodyPost_ret (results_cell_tmp rfl _ _ (B + 1) _ _ _ _ rfl hz rfl rfl rfl) rfl ⟨rfl, ?_⟩
    exact bel_set (bel_set hbl (by rw [hB]; simp) _) (by rw [hB]; simp) _
end Go.Proofs.Ytpemahllpbadcaa
