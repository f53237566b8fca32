/-
  The walk over the live of layer 09.
-/
import Derived.Test.YtpmkinnfbnfmbaaSz
namespace Go.Proofs.Ytpmkinnfbnfmbaa
open Go.RowKit

theorem live_sv : Sm.ok (Sm.fresh 16 2 1) ∧ (Sm.fresh 16 2 1).b = [0, 0] ∧ ¬ Sm.ok (Sm.fresh 9 2 1) ∧ Sm.right 7 ∧ ¬ Sm.right (-1) ∧ ¬ Sm.ok ⟨0, 0, 0, []⟩ := by decide
theorem live_some : [5, -1, 5].filter (Sm.has ⟨8, 3, 0, [255]⟩) = [5, 5] := by
  have h5 : Sm.has ⟨8, 3, 0, [255]⟩ 5 = true := Sm.has_full _ 5 1 (by decide) (by decide) rfl
  have h1 : Sm.has ⟨8, 3, 0, [255]⟩ (-1) = false := Sm.has_no _ _ (fun h => by have := h.2.1; omega)
  simp [h5, h1]

set_option maxRecDepth 100000 in
set_option maxHeartbeats 4000000 in
theorem live_true (w : World) : Calls Try.prog 9 #[] w fun e w' => e = .returned (.bool true) ∧ Below w.heap.size w w' := by
  obtain ⟨f1, f2, f3, f4, f5, f6⟩ := live_sv
  have F1 := Lib.hid f1; have F2 := Lib.hid f2; have F3 := Lib.hid f3; have F4 := Lib.hid f4; have F5 := Lib.hid f5; have F6 := Lib.hid f6
  have ok0 : Sm.ok ⟨16, 2, 1, [0, 0]⟩ := by decide
  have OK0 := Lib.hid ok0
  obtain ⟨X, hX⟩ : ∃ X, Sm.puts [0, 0] (Sm.places 16 2 1 7) = X := ⟨_, rfl⟩
  have hXl : X.length = 2 := by rw [← hX, Sm.puts_length]; rfl
  have hx7 : Sm.has ⟨16, 2, 1, X⟩ 7 = true := by have := Sm.has_put ⟨16, 2, 1, [0, 0]⟩ 7 ok0 f4; rw [← hX]; exact this
  have okX : Sm.ok ⟨16, 2, 1, X⟩ := Sm.ok_with ⟨16, 2, 1, [0, 0]⟩ X ok0 hXl
  have h07 : Sm.has ⟨16, 2, 1, [0, 0]⟩ 7 = false := Sm.has_zero _ 7 2 rfl
  have HX := Lib.hid hX; have HX7 := Lib.hid hx7; have OKX := Lib.hid okX; have H07 := Lib.hid h07; have LS := Lib.hid live_some; have HXl := Lib.hid hXl
  clear f1 f2 f3 f4 f5 f6 ok0 hX hx7 okX h07 hXl
  have hB := Below.refl w.heap.size w
  go_enter Try.func9, Try.ntmps9
  go_wp2_with fail
  refine (New_ok 16 2 1 [0, 0] _ F1.out F2.out).mono ?_; rintro e w1 ⟨a1, c1, rfl, r1, hb⟩
  replace hB := bel_stp hB hb
  clear hb
  have b1 := Quad.new w1 24 (.int .i64 16) (.int .i64 2) (.int .i64 1) (.slice a1 2 c1)
  have c0_b1 := b1.cell0; have c1_b1 := b1.cell1; have c2_b1 := b1.cell2; have c3_b1 := b1.cell3; have lt_b1 := b1.lt
  go_wp2_with fail
  refine (Put_ok ⟨16, 2, 1, [0, 0]⟩ _ 7 X _ (by exact (r1.alloc _)) ⟨OK0.out, F4.out⟩ HX.out).mono ?_; rintro e w2 ⟨a2, c2, rfl, r2, hb⟩
  clear c0_b1 c1_b1 c2_b1 c3_b1 lt_b1
  replace hB := bel_stp (bel_alloc hB _) hb
  replace r1 := (r1.alloc _).stp hb
  replace b1 := b1.stp hb
  clear hb
  rw [HXl.out] at r2 ⊢
  have b2 := Quad.new w2 24 (.int .i64 16) (.int .i64 2) (.int .i64 1) (.slice a2 2 c2)
  go_wp2_with fail
  refine (New_bad 9 2 1 _ F3.out).mono ?_; rintro e w3 ⟨rfl, hb⟩
  replace hB := bel_stp (bel_alloc hB _) hb
  replace r1 := (r1.alloc _).stp hb
  replace b1 := (b1.alloc _).stp hb
  replace r2 := (r2.alloc _).stp hb
  replace b2 := b2.stp hb
  clear hb
  have b3 := Quad.new w3 24 (.int .i64 0) (.int .i64 0) (.int .i64 0) (.slice none 0 0)
  clear b3
  have c0_b1 := b1.cell0; have c1_b1 := b1.cell1; have c2_b1 := b1.cell2; have c3_b1 := b1.cell3; have lt_b1 := b1.lt
  go_wp2_with fail
  refine (Put_bad ⟨16, 2, 1, [0, 0]⟩ _ (-1) _ (by exact (r1.alloc _)) (fun h => F5.out h.2)).mono ?_; rintro e w4 ⟨rfl, hb⟩
  clear c0_b1 c1_b1 c2_b1 c3_b1 lt_b1
  replace hB := bel_stp (bel_alloc hB _) hb
  replace r1 := (r1.alloc _).stp hb
  replace b1 := (b1.alloc _).stp hb
  replace r2 := (r2.alloc _).stp hb
  replace b2 := (b2.alloc _).stp hb
  clear hb
  have b4 := Quad.new w4 24 (.int .i64 0) (.int .i64 0) (.int .i64 0) (.slice none 0 0)
  clear b4
  have r255 := (Row.lit .u8 (w4.alloc (.cells #[.int .i64 0, .int .i64 0, .int .i64 0, .slice none 0 0] 24)) 5 [255] (by unfold maxLen; simp) (by decide)).alloc (.cells #[.int .i64 5, .int .i64 (-1), .int .i64 5] 3)
  have r515 := Row.lit .i64 ((w4.alloc (.cells #[.int .i64 0, .int .i64 0, .int .i64 0, .slice none 0 0] 24)).alloc (.cells #[.int .u8 255] 5)) 3 [5, -1, 5] (by unfold maxLen; simp) (by decide)
  simp only [World.size_alloc] at r255 r515
  go_wp2_with fail
  refine (Some_row ⟨8, 3, 0, [255]⟩ _ _ [5, -1, 5] [5, 5] _ (by exact r255) (by exact r515) (by decide) LS.out).mono ?_; rintro e w5 ⟨a3, c3, rfl, r3, hb⟩
  replace hB := bel_stp (bel_alloc (bel_alloc (bel_alloc hB _) _) _) hb
  replace r1 := (((r1.alloc _).alloc _).alloc _).stp hb
  replace b1 := (((b1.alloc _).alloc _).alloc _).stp hb
  replace r2 := (((r2.alloc _).alloc _).alloc _).stp hb
  replace b2 := (((b2.alloc _).alloc _).alloc _).stp hb
  clear hb
  clear r255 r515
  have c0_b1 := b1.cell0; have c1_b1 := b1.cell1; have c2_b1 := b1.cell2; have c3_b1 := b1.cell3; have lt_b1 := b1.lt
  have c0_b2 := b2.cell0; have c1_b2 := b2.cell1; have c2_b2 := b2.cell2; have c3_b2 := b2.cell3; have lt_b2 := b2.lt
  go_wp2_with fail
  refine (Has_is ⟨16, 2, 1, [0, 0]⟩ _ 7 _ _ (by exact r1) H07.out).mono ?_; rintro e w6 ⟨rfl, hb⟩
  clear c0_b1 c1_b1 c2_b1 c3_b1 lt_b1 c0_b2 c1_b2 c2_b2 c3_b2 lt_b2
  replace hB := bel_stp hB hb
  replace r1 := r1.stp hb
  replace b1 := b1.stp hb
  replace r2 := r2.stp hb
  replace b2 := b2.stp hb
  replace r3 := r3.stp hb
  clear hb
  have c0_b1 := b1.cell0; have c1_b1 := b1.cell1; have c2_b1 := b1.cell2; have c3_b1 := b1.cell3; have lt_b1 := b1.lt
  have c0_b2 := b2.cell0; have c1_b2 := b2.cell1; have c2_b2 := b2.cell2; have c3_b2 := b2.cell3; have lt_b2 := b2.lt
  have r2' : Row .u8 w6 (.slice a2 2 c2) X := r2
  go_wp2_with fail
  refine (Has_is ⟨16, 2, 1, X⟩ _ 7 _ _ (by exact r2') HX7.out).mono ?_; rintro e w7 ⟨rfl, hb⟩
  clear c0_b1 c1_b1 c2_b1 c3_b1 lt_b1 c0_b2 c1_b2 c2_b2 c3_b2 lt_b2
  replace hB := bel_stp hB hb
  replace r1 := r1.stp hb
  replace b1 := b1.stp hb
  replace r2 := r2.stp hb
  replace b2 := b2.stp hb
  replace r3 := r3.stp hb
  clear hb
  clear r2'
  have c0_b1 := b1.cell0; have c1_b1 := b1.cell1; have c2_b1 := b1.cell2; have c3_b1 := b1.cell3; have lt_b1 := b1.lt
  have c0_b2 := b2.cell0; have c1_b2 := b2.cell1; have c2_b2 := b2.cell2; have c3_b2 := b2.cell3; have lt_b2 := b2.lt
  go_wp2_with fail
  refine (Check_yes ⟨16, 2, 1, X⟩ _ _ (by exact r2) OKX.out).mono ?_; rintro e w8 ⟨rfl, hb⟩
  clear c0_b1 c1_b1 c2_b1 c3_b1 lt_b1 c0_b2 c1_b2 c2_b2 c3_b2 lt_b2
  replace hB := bel_stp hB hb
  replace r1 := r1.stp hb
  replace b1 := b1.stp hb
  replace r2 := r2.stp hb
  replace b2 := b2.stp hb
  replace r3 := r3.stp hb
  clear hb
  have c0_b1 := b1.cell0; have c1_b1 := b1.cell1; have c2_b1 := b1.cell2; have c3_b1 := b1.cell3; have lt_b1 := b1.lt
  have c0_b2 := b2.cell0; have c1_b2 := b2.cell1; have c2_b2 := b2.cell2; have c3_b2 := b2.cell3; have lt_b2 := b2.lt
  go_wp2_with fail
  refine (Check_not ⟨0, 0, 0, []⟩ _ _ (by exact Row.nil _ _) F6.out).mono ?_; rintro e w9 ⟨rfl, hb⟩
  clear c0_b1 c1_b1 c2_b1 c3_b1 lt_b1 c0_b2 c1_b2 c2_b2 c3_b2 lt_b2
  replace hB := bel_stp hB hb
  replace r1 := r1.stp hb
  replace b1 := b1.stp hb
  replace r2 := r2.stp hb
  replace b2 := b2.stp hb
  replace r3 := r3.stp hb
  clear hb
  have r55 := Row.lit .i64 w9 3 [5, 5] (by unfold maxLen; simp) (by decide)
  go_wp2_with fail
  refine (Ints_yes _ _ [5, 5] _ (r3.alloc _) (by exact r55) (by decide)).mono ?_; rintro e w10 ⟨rfl, hb⟩
  replace hB := bel_stp (bel_alloc hB _) hb
  replace r1 := (r1.alloc _).stp hb
  replace b1 := (b1.alloc _).stp hb
  replace r2 := (r2.alloc _).stp hb
  replace b2 := (b2.alloc _).stp hb
  replace r3 := (r3.alloc _).stp hb
  clear hb
  clear r55
  go_wp2_with fail
  go_ret
  exact ⟨rfl, hB⟩
end Go.Proofs.Ytpmkinnfbnfmbaa
