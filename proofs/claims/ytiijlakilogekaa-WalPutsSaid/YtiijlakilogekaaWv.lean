/-
  The walk over law20's live.
-/
import Derived.Test.YtiijlakilogekaaWk
import Derived.Test.YtiijlakilogekaaWr
import Derived.Test.YtiijlakilogekaaWb
import Derived.Test.YtiijlakilogekaaWl
namespace Go.Proofs.Ytiijlakilogekaa
open Go.RowKit

theorem good_none : Wm.good (([] : List Int) ++ []) = (([] : List Int) ++ []).length := (Wm.read_not [] (fun h => by have := h.1; simp at this)).2

theorem Rws.one {W : World} {v : Value} {l : List Int} (t : TypeId) (h : Row .u8 W v l) : Rws .u8 (W.alloc (.cells #[v] t)) (.slice (some ⟨W.heap.size, 0, none⟩) 1 1) [l] := by
  refine Rws.lit .u8 W t [v] [l] rfl (by simp [maxLen]) fun i hi => ?_
  have h0 : i = 0 := by
    simp at hi
    omega
  subst h0
  exact h
theorem Row.shape {k : IntKind} {w : World} {v : Value} {l : List Int} (h : Row k w v l) (n : Nat) (hn : l.length = n) : ∃ a c, v = .slice a n c := by
  obtain ⟨a, c, e, -⟩ := h
  exact ⟨a, c, by rw [e, hn]⟩

set_option maxRecDepth 100000 in
set_option maxHeartbeats 4000000 in
theorem live_true (w : World) : Calls Try.prog 4 #[] w fun e w' => e = .returned (.bool true) ∧ Below w.heap.size w w' := by
  obtain ⟨F, hF⟩ : ∃ F, Wm.frame [7, 8] = F := ⟨_, rfl⟩
  obtain ⟨G, hG⟩ : ∃ G, Wm.frame [] = G := ⟨_, rfl⟩
  have hFl : F.length = 22 := by rw [← hF, Wm.frame_length]; rfl
  have hGl : G.length = 20 := by rw [← hG, Wm.frame_length]; rfl
  have gF : Wm.good F = F.length := by rw [← hF]; exact (Wm.read_frame _ (by decide)).2
  go_enter Try.func4, Try.ntmps4
  go_wp2_with fail
  refine (Append_ok _ _ _ [] [] [7, 8] _ (Row.nil _ _) (Row.nil _ _) (Row.lit .u8 w 5 [7, 8] (by decide) (by decide)) (by decide) (by decide) (by decide) good_none).mono ?_; rintro e w1 ⟨x1, x2, rfl, r1, r2, hb1⟩
  rw [List.nil_append, hF] at r2
  have hB1 : Below w.heap.size w w1 := ((Below.refl _ w).alloc (Nat.le_refl _) _).trans (hb1.mono (by simp))
  obtain ⟨a1, c1, rfl⟩ := r1.shape 0 rfl
  obtain ⟨a2, c2, rfl⟩ := r2.shape 22 hFl
  clear hb1
  have nA := Duo.new w1 24 (.slice a1 0 c1) (.slice a2 22 c2)
  go_wp2_with fail
  refine (Sync_of _ _ [] F F _ (r1.alloc _) (r2.alloc _) (by simp [hFl]) rfl).mono ?_; rintro e w2 ⟨a3, c3, rfl, r3, -, hb2⟩
  rw [hFl] at r3 ⊢
  have hB2 := bel_stp (bel_alloc hB1 _) hb2
  have dA := nA.stp hb2
  have l2 := dA.lt
  clear r1 r2 nA hb2
  go_wp2_with fail
  refine (Append_ok _ _ _ F [] [] _ (r3.alloc _) (Row.nil _ _) (Row.nil _ _) (by omega) (by decide) (by decide) (by rw [List.append_nil]; exact gF)).mono ?_; rintro e w3 ⟨y1, y2, rfl, r4, r5, hb3⟩
  rw [List.nil_append, hG] at r5
  have hB3 := bel_stp (bel_alloc hB2 _) hb3
  have dA3 := (dA.alloc _).stp hb3
  obtain ⟨a4, c4, rfl⟩ := r4.shape 22 hFl
  obtain ⟨a5, c5, rfl⟩ := r5.shape 20 hGl
  clear r3 dA hb3 l2
  have l3 := dA3.lt
  have nC := Duo.new w3 24 (.slice a4 22 c4) (.slice a5 20 c5)
  go_wp2_with fail
  obtain ⟨D, hD⟩ : ∃ D, F ++ G.take 19 = D := ⟨_, rfl⟩
  have hDl : D.length = 41 := by rw [← hD]; simp; omega
  have hDf : Wm.read D = [[7, 8]] ∧ Wm.good D = 22 := by rw [← hD, ← hF, ← hG]; have h := Wm.live_facts [7, 8] [] 19 (by decide) (by decide); rw [h.2, Wm.frame_length] at h; exact ⟨h.1, by rw [(Wm.live_facts [7, 8] [] 19 (by decide) (by decide)).2, Wm.frame_length]; rfl⟩
  refine (Crash_yes _ _ F G D 19 _ (r4.alloc _) (r5.alloc _) (by omega) (by omega) hD).mono ?_; rintro e w4 ⟨a6, c6, rfl, r6, hb4⟩
  rw [hDl] at r6 ⊢
  have hB4 := bel_stp (bel_alloc hB3 _) hb4
  have dA4 := (dA3.alloc _).stp hb4
  have dC4 := nC.stp hb4
  have r44 := (r4.alloc _).stp hb4
  have r54 := (r5.alloc _).stp hb4
  clear dA3 nC r4 r5 hb4 l3
  have nD := Duo.new w4 24 (.slice a6 41 c6) (.slice none 0 0)
  go_wp2_with fail
  refine (Read_any _ _ D [] _ (r6.alloc _) (Row.nil _ _) (by omega) (by decide)).mono ?_; rintro e w5 ⟨r, rfl, r7, hb5⟩
  rw [List.append_nil, hDf.1] at r7
  rw [List.append_nil, hDf.2, show ((22 : Nat) : Int) = 22 from rfl]
  have hB5 := bel_stp (bel_alloc hB4 _) hb5
  have dA5 := (dA4.alloc _).stp hb5
  have dC5 := (dC4.alloc _).stp hb5
  have dD5 := nD.stp hb5
  have r65 := (r6.alloc _).stp hb5
  have r45 := (r44.alloc _).stp hb5
  have r55 := (r54.alloc _).stp hb5
  clear dA4 dC4 nD r6 r44 r54 hb5
  have l5 := dD5.lt
  have s50 := dD5.cell0
  have s51 := dD5.cell1
  go_wp2_with fail
  refine (Fix_any _ _ D [] _ r65 (Row.nil _ _) (by omega) (by decide)).mono ?_; rintro e w6 ⟨z1, z2, rfl, q1, q2, hb6⟩
  rw [List.append_nil, hDf.2, hDl] at q1 q2
  rw [List.append_nil, hDf.2, hDl, show ((41 - 22 : Nat) : Int) = 19 from rfl]
  obtain ⟨a7, c7, rfl⟩ := q1.shape 22 (by simp [hDl])
  obtain ⟨a8, c8, rfl⟩ := q2.shape 0 (by simp)
  have hB6 := bel_stp hB5 hb6
  have dA6 := dA5.stp hb6
  have dC6 := dC5.stp hb6
  have dD6 := dD5.stp hb6
  have r66 := r65.stp hb6
  have r46 := r45.stp hb6
  have r56 := r55.stp hb6
  have r76 := r7.below hb6
  clear dA5 dC5 dD5 r65 r45 r55 r7 hb6 s50 s51 q1 q2 l5
  have nX := Duo.new w6 24 (.slice a7 22 c7) (.slice a8 0 c8)
  have l6 := dD6.lt
  have s60 := dD6.cell0
  have s61 := dD6.cell1
  go_wp2_with fail
  refine (Append_not _ _ _ D [] [] _ (r66.alloc _) (Row.nil _ _) (Row.nil _ _) (by omega) (by decide) (by decide) (.inr (by rw [List.append_nil, hDf.2, hDl]; decide))).mono ?_; rintro e w7 ⟨rfl, hb7⟩
  rw [if_neg (by decide)]
  have hB7 := bel_stp (bel_alloc hB6 _) hb7
  have dA7 := (dA6.alloc _).stp hb7
  have dC7 := (dC6.alloc _).stp hb7
  have dD7 := (dD6.alloc _).stp hb7
  have dX7 := nX.stp hb7
  have r47 := (r46.alloc _).stp hb7
  have r57 := (r56.alloc _).stp hb7
  have r77 := (r76.alloc _).below hb7
  clear dA6 dC6 dD6 r66 r46 r56 r76 hb7 s60 s61 nX l6
  have l7 := dC7.lt
  have s70 := dC7.cell0
  have s71 := dC7.cell1
  go_wp2_with fail
  refine (Crash_no _ _ F G 21 _ (r47.alloc _) (r57.alloc _) (by omega) (.inr (by omega))).mono ?_; rintro e w8 ⟨rfl, hb8⟩
  have hB8 := bel_stp (bel_alloc hB7 _) hb8
  have dA8 := (dA7.alloc _).stp hb8
  have dC8 := (dC7.alloc _).stp hb8
  have dD8 := (dD7.alloc _).stp hb8
  have dX8 := (dX7.alloc _).stp hb8
  have r48 := (r47.alloc _).stp hb8
  have r58 := (r57.alloc _).stp hb8
  have r78 := (r77.alloc _).below hb8
  clear dA7 dC7 dD7 dX7 r47 r57 r77 hb8 s70 s71 l7
  have t1 := dA8.cell0
  have t2 := dA8.cell1
  have t3 := dC8.cell0
  have t4 := dC8.cell1
  have t5 := dD8.cell0
  have t6 := dD8.cell1
  have t7 := dX8.cell0
  have u1 := dA8.lt
  have u2 := dC8.lt
  have u3 := dD8.lt
  have u4 := dX8.lt
  go_wp2_with fail
  have rl := Row.lit .u8 (w8.alloc (.cells #[.slice none 0 0, .slice none 0 0] 24)) 5 [7, 8] (by decide) (by decide)
  have ll := Rws.one 22 rl
  simp only [World.size_alloc] at ll
  refine (Lists_yes _ _ [[7, 8]] [[7, 8]] _ (((r78.alloc _).alloc _).alloc _) (by exact ll) rfl (by decide)).mono ?_; rintro e w9 ⟨rfl, hb9⟩
  have hB9 := bel_stp (bel_alloc (bel_alloc (bel_alloc hB8 _) _) _) hb9
  have dC9 := (((dC8.alloc _).alloc _).alloc _).stp hb9
  have r49 := (((r48.alloc _).alloc _).alloc _).stp hb9
  have r59 := (((r58.alloc _).alloc _).alloc _).stp hb9
  clear t1 t2 t3 t4 t5 t6 t7 u1 u2 u3 u4
  have t3 := dC9.cell0
  have t4 := dC9.cell1
  go_wp2_with fail
  refine (Check_ok _ _ F G _ r49 r59 (by omega)).mono ?_; rintro e w10 ⟨rfl, hb10⟩
  have hB10 := bel_stp hB9 hb10
  go_wp2_with fail
  go_ret
  exact ⟨rfl, hB10⟩
end Go.Proofs.Ytiijlakilogekaa
