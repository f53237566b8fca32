/-
  Walks over greatsealref20: Sync, Crash.
-/
import Derived.Test.YtiijlakilogekaaGe
import Derived.Test.YtiijlakilogekaaRs
namespace Go.Proofs.Ytiijlakilogekaa
open Go.RowKit

set_option maxRecDepth 100000 in
set_option maxHeartbeats 2000000 in
theorem RSync_of (v1 v2 : Value) (S O b : List Int) (w : World) (h1 : Row .u8 w v1 S) (h2 : Row .u8 w v2 O) (n : S.length + O.length ≤ 65536) (hb : S ++ O = b) :
    Calls Try.prog 9 #[.agg #[v1, v2]] w fun e w' => ∃ a c, e = .returned (.tuple #[.agg #[.slice a b.length c, .slice none 0 0], .int .i64 0]) ∧ Row .u8 w' (.slice a b.length c) b ∧ Below w.heap.size w w' := by
  have hby : ∀ x ∈ b, byte x := by
    intro x hx
    rw [← hb] at hx
    rcases List.mem_append.1 hx with h | h
    · exact h1.all_byte x h
    · exact h2.all_byte x h
  have HBy := Lib.hid hby; have HB := Lib.hid hb
  clear hby hb
  obtain ⟨a1, c1, rfl⟩ := h1.shape S.length rfl
  obtain ⟨a2, c2, rfl⟩ := h2.shape O.length rfl
  obtain ⟨B, hB⟩ : ∃ B, w.heap.size = B := ⟨_, rfl⟩
  have dS := (Duo.new w 24 (.slice a1 S.length c1) (.slice a2 O.length c2)).alloc (.cells #[.slice none 0 0, .slice none 0 0] 24)
  have dX := Duo.new (w.alloc (.cells #[.slice a1 S.length c1, .slice a2 O.length c2] 24)) 24 (.slice none 0 0) (.slice none 0 0)
  have hbl := bel_alloc (bel_alloc (Below.refl w.heap.size w) (.cells #[.slice a1 S.length c1, .slice a2 O.length c2] 24)) (.cells #[.slice none 0 0, .slice none 0 0] 24)
  have r1 := (h1.alloc (.cells #[.slice a1 S.length c1, .slice a2 O.length c2] 24)).alloc (.cells #[.slice none 0 0, .slice none 0 0] 24)
  have r2 := (h2.alloc (.cells #[.slice a1 S.length c1, .slice a2 O.length c2] 24)).alloc (.cells #[.slice none 0 0, .slice none 0 0] 24)
  rw [World.size_alloc] at dX
  rw [hB] at dS dX
  go_enter Try.func9, Try.ntmps9
  go_wp2_with fail
  (try rw [hB])
  refine (RCheck_ok _ _ S O _ r1 r2 n).mono ?_; rintro e w1 ⟨rfl, hb1⟩
  replace hbl := bel_stp hbl hb1
  replace dS := dS.stp hb1
  replace dX := dX.stp hb1
  replace r1 := r1.stp hb1
  replace r2 := r2.stp hb1
  clear hb1 h1 h2
  have s0 := dS.cell0; have s1 := dS.cell1
  go_wp2_with fail
  refine (Rall_any _ _ S O _ r1 r2 (by omega) (by omega)).mono ?_; rintro e w2 ⟨r, rfl, ho, hb2⟩
  rw [HB.out] at ho
  have hpast := fun g (hg : g < w1.heap.size) => Past.off (n := w1.heap.size) (g := g) (v := r) (fun b o l c e => own_above ho (by rw [e]; rfl)) hg
  have ltX := dX.lt
  have hoX := hpast (B + 1) ltX
  have rr := owns_row ho HBy.out
  obtain ⟨ar, cr, rfl⟩ := rr.shape b.length rfl
  replace hbl := bel_stp hbl hb2
  replace dX := dX.stp hb2
  clear s0 s1 dS r1 r2 hb2 hpast ho
  have x0 := dX.cell0; have x1 := dX.cell1; have x2 := dX.free 0; have x3 := dX.free 1
  go_wp2_with fail
  have hz : Duo ((w2.setCell ⟨B + 1, 0, none⟩ (.slice ar b.length cr)).setCell ⟨B + 1, 1, none⟩ (.slice none 0 0)) (B + 1) 24 (.slice ar b.length cr) (.slice none 0 0) := (dX.set0 _).set1 _
  refine bodyPost_ret (results_cell_tmp rfl _ _ (B + 1) _ _ _ _ rfl hz rfl rfl rfl) rfl ⟨ar, cr, rfl, (rr.aside hoX _).aside hoX _, ?_⟩
  exact bel_set (bel_set hbl (by rw [hB]; simp) _) (by rw [hB]; simp) _

end Go.Proofs.Ytiijlakilogekaa
