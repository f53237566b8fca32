/-
  The walk over wal.Append, where it appends nothing.
-/
import Derived.Test.YtiijlakilogekaaWa
namespace Go.Proofs.Ytiijlakilogekaa
open Go.RowKit

set_option maxRecDepth 100000 in
set_option maxHeartbeats 4000000 in
theorem Append_not (v1 v2 v : Value) (S O l : List Int) (w : World) (h1 : Row .u8 w v1 S) (h2 : Row .u8 w v2 O) (h : Row .u8 w v l) (n1 : S.length ≤ 30000) (n2 : O.length ≤ 30000) (nl : l.length ≤ 10000000) (hno : 4096 < l.length ∨ Wm.good (S ++ O) ≠ (S ++ O).length) :
    Calls Try.prog 6 #[.agg #[v1, v2], v] w fun e w' => e = .returned (.tuple #[.agg #[.slice none 0 0, .slice none 0 0], .int .i64 (if 4096 < l.length then 1 else 200)]) ∧ Below w.heap.size w w' := by
  have H1 := Lib.hid h1; have H2 := Lib.hid h2; have H := Lib.hid h
  have HNo := Lib.hid hno
  obtain ⟨a1, c1, rfl, -⟩ := h1
  obtain ⟨a2, c2, rfl, -⟩ := h2
  obtain ⟨a, c, rfl, -⟩ := h
  clear hno
  go_enter Try.func6, Try.ntmps6
  go_wp2_with fail
  refine (Fix_any _ _ S O _ ((H1.out.alloc _).alloc _) ((H2.out.alloc _).alloc _) (by omega) (by omega)).mono ?_; rintro e w1 ⟨y1, y2, rfl, hy1, hy2, hb1⟩
  have hgl := Wm.good_le (S ++ O)
  obtain ⟨lost, hlost⟩ : ∃ m, (S ++ O).length - Wm.good (S ++ O) = m := ⟨_, rfl⟩
  have hno2 : 4096 < l.length ∨ 0 < lost := by rcases HNo.out with h | h <;> first | exact .inl h | exact .inr (by omega)
  have hlo : lost ≤ 60000 := by rw [← hlost, List.length_append]; omega
  rw [hlost]
  clear hlost hgl
  obtain ⟨b1, p1, d1, rfl⟩ : ∃ b p d, y1 = .slice b p d := by obtain ⟨a, c, e, -⟩ := hy1; exact ⟨_, _, _, e⟩
  obtain ⟨b2, p2, d2, rfl⟩ : ∃ b p d, y2 = .slice b p d := by obtain ⟨a, c, e, -⟩ := hy2; exact ⟨_, _, _, e⟩
  have dS : Duo w1 w.heap.size 24 (.slice a1 S.length c1) (.slice a2 O.length c2) := ((Duo.new w 24 (.slice a1 S.length c1) (.slice a2 O.length c2)).alloc (.cells #[.slice none 0 0, .slice none 0 0] 24)).kept hb1 (by simp; omega)
  have dX : Duo w1 (w.heap.size + 1) 24 (.slice none 0 0) (.slice none 0 0) := by
    have h := Duo.new (w.alloc (.cells #[.slice a1 S.length c1, .slice a2 O.length c2] 24)) 24 (.slice none 0 0) (.slice none 0 0)
    rw [World.size_alloc] at h
    exact h.kept hb1 (by simp)
  have hsz1 : w.heap.size + 2 ≤ w1.heap.size := by have := hb1.size; simp at this; omega
  have hB1 : Below w.heap.size w w1 := (((Below.refl _ w).alloc (Nat.le_refl _) (.cells #[.slice a1 S.length c1, .slice a2 O.length c2] 24)).alloc (by simp) (.cells #[.slice none 0 0, .slice none 0 0] 24)).trans (hb1.mono (by simp; omega))
  clear hb1
  have s0 := dS.cell0
  have s1 := dS.cell1
  have lt1 : w.heap.size < w1.heap.size := by omega
  clear hy1 hy2
  go_wp2_with fail
  refine (Check_ok _ _ S O _ ((H1.out.below hB1).alloc _) ((H2.out.below hB1).alloc _) (by omega)).mono ?_; rintro e w2 ⟨rfl, hb2⟩
  have hb2' := ((Below.refl w1.heap.size w1).alloc (Nat.le_refl _) (.cells #[.slice b1 p1 d1, .slice b2 p2 d2] 24)).trans (hb2.mono (by simp))
  have hB2 := hB1.trans (hb2'.mono hB1.size)
  have dS2 := dS.kept hb2' (by omega)
  have dX2 := dX.kept hb2' (by omega)
  have hsz2 : w.heap.size + 2 ≤ w2.heap.size := by have := hb2'.size; omega
  have HR1 := Lib.hid (H1.out.below hB2)
  have HR2 := Lib.hid (H2.out.below hB2)
  have HR := Lib.hid (H.out.below hB2)
  clear s0 s1 dS dX hb2 lt1 hb2'
  have s0 := dS2.cell0
  have s1 := dS2.cell1
  have x60 := dX2.cell0
  have x61 := dX2.cell1
  have x62 := dX2.free 0
  have x63 := dX2.free 1
  have hz : Duo ((w2.setCell ⟨w.heap.size + 1, 0, none⟩ (.slice none 0 0)).setCell ⟨w.heap.size + 1, 1, none⟩ (.slice none 0 0)) (w.heap.size + 1) 24 (.slice none 0 0) (.slice none 0 0) := (dX2.set0 _).set1 _
  have hB3 := bel_set (p := ⟨w.heap.size + 1, 1, none⟩) (bel_set (p := ⟨w.heap.size + 1, 0, none⟩) hB2 (by simp) (.slice none 0 0)) (by simp) (.slice none 0 0)
  by_cases hl : 4096 < l.length
  · have hl' : (4096 : Int) < l.length := by omega
    go_wp2_with fail
    refine bodyPost_ret (results_cell_tmp rfl _ _ (w.heap.size + 1) _ _ _ _ rfl hz rfl rfl rfl) rfl ⟨by simp, hB3⟩
  · have hl' : ¬ (4096 : Int) < l.length := by omega
    have hl0 : (0 : Int) < lost := by omega
    go_wp2_with fail
    refine bodyPost_ret (results_cell_tmp rfl _ _ (w.heap.size + 1) _ _ _ _ rfl hz rfl rfl rfl) rfl ⟨by simp, hB3⟩
end Go.Proofs.Ytiijlakilogekaa
