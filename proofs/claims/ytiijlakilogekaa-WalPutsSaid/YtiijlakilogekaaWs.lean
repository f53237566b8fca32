/-
  The walks over wal.Check, wal.Sync, wal.Crash.
-/
import Derived.Test.YtiijlakilogekaaWf
import Derived.Test.YtiijlakilogekaaRs
import Derived.Deep.RegionWith
namespace Go.Proofs.Ytiijlakilogekaa
open Go.RowKit

theorem below_undrew {n : Nat} {w w' : World} (h : Below n w.drew w') : Below n w w' := ⟨h.os, h.tape, h.output, h.size, h.block⟩
set_option maxHeartbeats 400000 in
theorem Check_ok (v1 v2 : Value) (S O : List Int) (w : World) (h1 : Row .u8 w v1 S) (h2 : Row .u8 w v2 O) (n : S.length + O.length ≤ 65536) :
    Calls Try.prog 11 #[.agg #[v1, v2]] w fun e w' => e = .returned (.int .i64 0) ∧ Below w.heap.size w w' := by
  obtain ⟨a1, c1, rfl, -⟩ := h1
  obtain ⟨a2, c2, rfl, -⟩ := h2
  go_enter Try.func11, Try.ntmps11
  go_wp2
  go_ret
  exact ⟨rfl, (Below.refl _ _).alloc (Nat.le_refl _) _⟩

theorem all_of (v1 v2 : Value) (l1 l2 b : List Int) (w : World) (h1 : Row .u8 w v1 l1) (h2 : Row .u8 w v2 l2) (n1 : l1.length ≤ 200000) (n2 : l2.length ≤ 200000) (hb : l1 ++ l2 = b) :
    Calls Try.prog 22 #[.agg #[v1, v2]] w fun e w' => ∃ a c, e = .returned (.slice a b.length c) ∧ Row .u8 w' (.slice a b.length c) b ∧ (∀ b' o', a = some ⟨b', o', none⟩ → w.heap.size ≤ b') ∧ Below w.heap.size w w' := by
  subst hb
  refine (all_any v1 v2 l1 l2 w h1 h2 n1 n2).mono ?_
  rintro e w1 ⟨r, rfl, hown, hb1⟩
  have hrow := Row.of_bytes hown (fun x hx => by
    rcases List.mem_append.1 hx with h | h
    · exact h1.all_byte x h
    · exact h2.all_byte x h)
  obtain ⟨a, c, rfl, hr⟩ := hrow
  exact ⟨a, c, rfl, ⟨a, c, rfl, hr⟩, fun b' o' e => (hown.lt b' (by rw [e]; rfl)).1, hb1⟩

set_option maxRecDepth 100000 in
set_option maxHeartbeats 1000000 in
theorem Sync_of (v1 v2 : Value) (S O b : List Int) (w : World) (h1 : Row .u8 w v1 S) (h2 : Row .u8 w v2 O) (n : S.length + O.length ≤ 65536) (hb : S ++ O = b) :
    Calls Try.prog 8 #[.agg #[v1, v2]] w fun e w' => ∃ a c, e = .returned (.tuple #[.agg #[.slice a b.length c, .slice none 0 0], .int .i64 0]) ∧ Row .u8 w' (.slice a b.length c) b ∧ (∀ b' o', a = some ⟨b', o', none⟩ → w.heap.size ≤ b') ∧ Below w.heap.size w w' := by
  have H1 := Lib.hid h1; have H2 := Lib.hid h2
  obtain ⟨a1, c1, rfl, -⟩ := h1
  obtain ⟨a2, c2, rfl, -⟩ := h2
  have HB := Lib.hid hb
  clear hb
  go_enter Try.func8, Try.ntmps8
  go_wp2_with fail
  refine (Check_ok _ _ S O _ ((H1.out.alloc _).alloc _) ((H2.out.alloc _).alloc _) n).mono ?_; rintro e w1 ⟨rfl, hb1⟩
  have dS : Duo w1 w.heap.size 24 (.slice a1 S.length c1) (.slice a2 O.length c2) := ((Duo.new w 24 (.slice a1 S.length c1) (.slice a2 O.length c2)).alloc (.cells #[.slice none 0 0, .slice none 0 0] 24)).kept hb1 (by simp; omega)
  have dX : Duo w1 (w.heap.size + 1) 24 (.slice none 0 0) (.slice none 0 0) := by
    have h := Duo.new (w.alloc (.cells #[.slice a1 S.length c1, .slice a2 O.length c2] 24)) 24 (.slice none 0 0) (.slice none 0 0)
    rw [World.size_alloc] at h
    exact h.kept hb1 (by simp)
  have hsz1 : w.heap.size + 2 ≤ w1.heap.size := by have := hb1.size; simp at this; omega
  have hB1 : Below w.heap.size w w1 := (((Below.refl _ w).alloc (Nat.le_refl _) (.cells #[.slice a1 S.length c1, .slice a2 O.length c2] 24)).alloc (by simp) (.cells #[.slice none 0 0, .slice none 0 0] 24)).trans (hb1.mono (by simp; omega))
  clear hb1
  have s0 := dS.cell0
  have s1 := dS.cell1
  go_wp2_with fail
  refine (all_of _ _ S O b _ (H1.out.below hB1) (H2.out.below hB1) (by omega) (by omega) HB.out).mono ?_; rintro e w2 ⟨ar, cr, rfl, hrow, hfar, hb2⟩
  have dX2 := dX.kept hb2 (by omega)
  have hB2 := hB1.trans (hb2.mono hB1.size)
  have HRow := Lib.hid hrow; have HFar := Lib.hid hfar
  clear s0 s1 hrow hfar dS
  have x0 := dX2.cell0
  have x1 := dX2.cell1
  have x2 := dX2.free 0
  have x3 := dX2.free 1
  go_wp2_with fail
  have hz : Duo ((w2.setCell ⟨w.heap.size + 1, 0, none⟩ (.slice ar b.length cr)).setCell ⟨w.heap.size + 1, 1, none⟩ (.slice none 0 0)) (w.heap.size + 1) 24 (.slice ar b.length cr) (.slice none 0 0) := (dX2.set0 _).set1 _
  refine bodyPost_ret (results_cell_tmp rfl _ _ (w.heap.size + 1) _ _ _ _ rfl hz rfl rfl rfl) rfl ⟨ar, cr, rfl, ?_, fun b' o' e => by have := HFar.out b' o' e; omega, (hB2.setCell (by simp) _).setCell (by simp) _⟩
  refine (HRow.out.other (fun b' o' n' c' e => ?_) _).other (fun b' o' n' c' e => ?_) _
  all_goals
    injection e with e
    have h := HFar.out b' o' e
    simp only
    omega

set_option maxRecDepth 100000 in
set_option maxHeartbeats 1000000 in
theorem Crash_far (v1 v2 : Value) (S O b : List Int) (k : Nat) (w : World) (h1 : Row .u8 w v1 S) (h2 : Row .u8 w v2 O) (n : S.length + O.length ≤ 65536) (hk : k ≤ O.length) (hb : S ++ O.take k = b) :
    Calls Try.prog 13 #[.agg #[v1, v2], .int .i64 k] w fun e w' => ∃ a c, e = .returned (.tuple #[.agg #[.slice a b.length c, .slice none 0 0], .int .i64 0]) ∧ Row .u8 w' (.slice a b.length c) b ∧ (∀ b' o', a = some ⟨b', o', none⟩ → w.heap.size ≤ b') ∧ Below w.heap.size w w' := by
  have HB := Lib.hid hb
  clear hb
  have H1 := Lib.hid h1; have H2 := Lib.hid h2
  obtain ⟨a1, c1, rfl, -⟩ := h1
  obtain ⟨a2, c2, rfl, hc2, -⟩ := h2
  go_enter Try.func13, Try.ntmps13
  go_wp2_with fail
  refine (Check_ok _ _ S O _ ((H1.out.alloc _).alloc _) ((H2.out.alloc _).alloc _) n).mono ?_; rintro e w1 ⟨rfl, hb1⟩
  have dS : Duo w1 w.heap.size 24 (.slice a1 S.length c1) (.slice a2 O.length c2) := ((Duo.new w 24 (.slice a1 S.length c1) (.slice a2 O.length c2)).alloc (.cells #[.slice none 0 0, .slice none 0 0] 24)).kept hb1 (by simp; omega)
  have dX : Duo w1 (w.heap.size + 1) 24 (.slice none 0 0) (.slice none 0 0) := by
    have h := Duo.new (w.alloc (.cells #[.slice a1 S.length c1, .slice a2 O.length c2] 24)) 24 (.slice none 0 0) (.slice none 0 0)
    rw [World.size_alloc] at h
    exact h.kept hb1 (by simp)
  have hsz1 : w.heap.size + 2 ≤ w1.heap.size := by have := hb1.size; simp at this; omega
  have hB1 : Below w.heap.size w w1 := (((Below.refl _ w).alloc (Nat.le_refl _) (.cells #[.slice a1 S.length c1, .slice a2 O.length c2] 24)).alloc (by simp) (.cells #[.slice none 0 0, .slice none 0 0] 24)).trans (hb1.mono (by simp; omega))
  have HR1 := Lib.hid (H1.out.below hB1)
  have HR2 := Lib.hid ((H2.out.below hB1).take k hk)
  clear hb1
  have s0 := dS.cell0
  have s1 := dS.cell1
  have hkc : (k : Int) ≤ c2 := by omega
  go_wp2_with fail
  go_region_with (go_at_call 8; refine (Sync_of _ _ S (O.take k) b _ (by exact HR1.out) (by exact HR2.out) (by simp; omega) HB.out).mono ?_; rintro e w2 ⟨ar, cr, rfl, hrow, hfar, hb2⟩; have dX2 := dX.kept (W' := w2) (below_undrew hb2) (by show _ < w1.heap.size; omega); have x0 := dX2.cell0; have x1 := dX2.cell1; have x2 := dX2.free 0; have x3 := dX2.free 1)
  all_goals
    go_wp2_with fail
    have hz : Duo ((w2.setCell ⟨w.heap.size + 1, 0, none⟩ (.slice ar b.length cr)).setCell ⟨w.heap.size + 1, 1, none⟩ (.slice none 0 0)) (w.heap.size + 1) 24 (.slice ar b.length cr) (.slice none 0 0) := (dX2.set0 _).set1 _
    have hB2 := hB1.trans ((below_undrew hb2).mono hB1.size)
    refine bodyPost_ret (results_cell_tmp rfl _ _ (w.heap.size + 1) _ _ _ _ rfl hz rfl rfl rfl) rfl ⟨ar, cr, rfl, ?_, fun b' o' e => by (have h : w1.heap.size ≤ b' := hfar b' o' e); omega, (hB2.setCell (by simp) _).setCell (by simp) _⟩
    refine (hrow.other (fun b' o' n' c' e => ?_) _).other (fun b' o' n' c' e => ?_) _
    all_goals
      injection e with e
      have h : w1.heap.size ≤ b' := hfar b' o' e
      simp only
      omega

theorem Crash_yes (v1 v2 : Value) (S O b : List Int) (k : Nat) (w : World) (h1 : Row .u8 w v1 S) (h2 : Row .u8 w v2 O) (n : S.length + O.length ≤ 65536) (hk : k ≤ O.length) (hb : S ++ O.take k = b) :
    Calls Try.prog 13 #[.agg #[v1, v2], .int .i64 k] w fun e w' => ∃ a c, e = .returned (.tuple #[.agg #[.slice a b.length c, .slice none 0 0], .int .i64 0]) ∧ Row .u8 w' (.slice a b.length c) b ∧ Below w.heap.size w w' :=
  (Crash_far v1 v2 S O b k w h1 h2 n hk hb).mono fun _ _ ⟨a, c, e, r, _, h⟩ => ⟨a, c, e, r, h⟩

set_option maxRecDepth 100000 in
set_option maxHeartbeats 1000000 in
theorem Crash_no (v1 v2 : Value) (S O : List Int) (k : Int) (w : World) (h1 : Row .u8 w v1 S) (h2 : Row .u8 w v2 O) (n : S.length + O.length ≤ 65536) (hk : k < 0 ∨ (O.length : Int) < k) :
    Calls Try.prog 13 #[.agg #[v1, v2], .int .i64 k] w fun e w' => e = .returned (.tuple #[.agg #[.slice none 0 0, .slice none 0 0], .int .i64 1]) ∧ Below w.heap.size w w' := by
  have H1 := Lib.hid h1; have H2 := Lib.hid h2
  obtain ⟨a1, c1, rfl, -⟩ := h1
  obtain ⟨a2, c2, rfl, hc2, -⟩ := h2
  rcases hk with hk | hk
  all_goals
    go_enter Try.func13, Try.ntmps13
    go_wp2_with fail
    refine (Check_ok _ _ S O _ ((H1.out.alloc _).alloc _) ((H2.out.alloc _).alloc _) n).mono ?_; rintro e w1 ⟨rfl, hb1⟩
    have dS : Duo w1 w.heap.size 24 (.slice a1 S.length c1) (.slice a2 O.length c2) := ((Duo.new w 24 (.slice a1 S.length c1) (.slice a2 O.length c2)).alloc (.cells #[.slice none 0 0, .slice none 0 0] 24)).kept hb1 (by simp; omega)
    have dX : Duo w1 (w.heap.size + 1) 24 (.slice none 0 0) (.slice none 0 0) := by
      have h := Duo.new (w.alloc (.cells #[.slice a1 S.length c1, .slice a2 O.length c2] 24)) 24 (.slice none 0 0) (.slice none 0 0)
      rw [World.size_alloc] at h
      exact h.kept hb1 (by simp)
    have hB1 : Below w.heap.size w w1 := (((Below.refl _ w).alloc (Nat.le_refl _) (.cells #[.slice a1 S.length c1, .slice a2 O.length c2] 24)).alloc (by simp) (.cells #[.slice none 0 0, .slice none 0 0] 24)).trans (hb1.mono (by simp; omega))
    clear hb1
    have s0 := dS.cell0
    have s1 := dS.cell1
    have x0 := dX.cell0
    have x1 := dX.cell1
    have x2 := dX.free 0
    have x3 := dX.free 1
    go_wp2_with fail
    have hz : Duo ((w1.setCell ⟨w.heap.size + 1, 0, none⟩ (.slice none 0 0)).setCell ⟨w.heap.size + 1, 1, none⟩ (.slice none 0 0)) (w.heap.size + 1) 24 (.slice none 0 0) (.slice none 0 0) := (dX.set0 _).set1 _
    exact bodyPost_ret (results_cell_tmp rfl _ _ (w.heap.size + 1) _ _ _ _ rfl hz rfl rfl rfl) rfl ⟨rfl, (hB1.setCell (by simp) _).setCell (by simp) _⟩
end Go.Proofs.Ytiijlakilogekaa
