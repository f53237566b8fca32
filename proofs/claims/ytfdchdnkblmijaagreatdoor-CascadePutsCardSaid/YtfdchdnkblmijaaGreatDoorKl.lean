/-
  The walk over the live of layer 10. (Printed by wip/gen_live10.py.)
-/
import Derived.Test.YtfdchdnkblmijaaGreatDoorKg
import Derived.Test.YtfdchdnkblmijaaGreatDoorYe
import Derived.Test.YtfdchdnkblmijaaGreatDoorYc
namespace Go.Proofs.YtfdchdnkblmijaaGreatDoor
open Go.RowKit

theorem AtA.new {W : World} {day : Int} {ls : List Sm.Sv} {a : Option Addr} {c : Nat} (h : Svs W (.slice a ls.length c) ls) : AtA (W.alloc (.cells #[.int .i64 day, .slice a ls.length c] 24)) W.heap.size day ls := ⟨a, c, Duo.new W _ _ _, h.alloc _⟩
theorem AtA.alloc {W : World} {A : Nat} {da : Int} {xs : List Sm.Sv} (h : AtA W A da xs) (o : Obj) : AtA (W.alloc o) A da xs := h.below ((Below.refl _ W).alloc (Nat.le_refl _) o)
theorem good_first {day : Int} {ls : List Sm.Sv} (h : Cm.good day ls) (h1 : 1 ≤ ls.length) : (ls[0]?.getD Cm.nil).salt = 16 * day := by
  have := (h.2.2 0 (by omega)).2.2
  simpa using this
theorem chk_ok {day : Int} {ls : List Sm.Sv} (h : Cm.good day ls) : Cm.chk day ls = 0 := Cm.chk_zero.2 h
theorem put_ok {day : Int} {ls : List Sm.Sv} (h : Cm.good day ls) (hf : Cm.Few 300 ls) : Cm.putR day ls = .ok (Dm.bytes (Cm.item day ls)) := by
  unfold Cm.putR
  rw [if_pos (chk_ok h), if_pos (Cm.item_fits h hf)]
theorem delta_ok {da db : Int} {xs ys : List Sm.Sv} (h : Cm.good da xs) (h2 : Cm.good db ys) (hf : Cm.Few 300 ys) : Cm.deltaR da xs db ys = .ok (Dm.bytes (Cm.stepItem da xs db ys)) := by
  unfold Cm.deltaR
  rw [if_pos (chk_ok h), if_pos (chk_ok h2), if_pos (Cm.step_fits h.2.1 h2 hf)]

set_option maxRecDepth 100000 in
set_option maxHeartbeats 8000000 in
theorem live10_true (w : World) (hk : KindsAt w) : Calls Tryz.prog 4 #[] w fun e w' => e = .returned (.bool true) ∧ Below w.heap.size w w' := by
  obtain ⟨l1, l2, m1, m2, ⟨f1, b8⟩, f2⟩ := Cm.live_make
  obtain ⟨m3, m4, m5⟩ := Cm.live_codes
  obtain ⟨g1, p1⟩ := Cm.mk_good m1
  obtain ⟨g2, p2⟩ := Cm.mk_good m2
  have hs1 := (Cm.mk_has m1).1 1 (by simp)
  have hs2 := (Cm.mk_has m1).2 2 (by simp)
  have hs3 := (Cm.mk_has m1).2 3 (by simp)
  have hs4 := (Cm.mk_has m2).2 2 (by simp)
  have hs5 := (Cm.mk_has m2).2 3 (by simp)
  dsimp only at g1 p1 g2 p2 hs1 hs2 hs3 hs4 hs5
  have hput := put_ok g1 f1
  have hget := Cm.put_get (chk_ok g1) (Cm.item_fits g1 f1)
  have hdel := delta_ok (xs := l1) g1 g2 f2
  have happ := (Cm.step_apply (dc := 7) (cs := l1) g1 g2 g1 (Cm.step_fits g1.2.1 g2 f2)).1
  have hnil := Cm.apply_nil (chk_ok g1)
  have hc1 := chk_ok g1
  have h112 := good_first g1 p1
  have hln1 : l1.length ≤ 16 := g1.1
  have hln2 : l2.length ≤ 16 := g2.1
  obtain ⟨L1, hL1⟩ : ∃ L, Dm.bytes (Cm.item 7 l1) = L := ⟨_, rfl⟩
  obtain ⟨L2, hL2⟩ : ∃ L, Dm.bytes (Cm.stepItem 7 l1 7 l2) = L := ⟨_, rfl⟩
  have hl1 : L1.length ≤ 8192 := by rw [← hL1, Dm.bytes_len]; exact Cm.item_fits g1 f1
  have hl2 : L2.length ≤ 8192 := by rw [← hL2, Dm.bytes_len]; exact Cm.step_fits g1.2.1 g2 f2
  rw [hL1] at hput hget
  rw [hL2] at hdel happ
  have H_m1 := Lib.hid m1; have H_m2 := Lib.hid m2; have H_m3 := Lib.hid m3; have H_m4 := Lib.hid m4; have H_m5 := Lib.hid m5; have H_b8 := Lib.hid b8; have H_p1 := Lib.hid p1; have H_hs1 := Lib.hid hs1; have H_hs2 := Lib.hid hs2; have H_hs3 := Lib.hid hs3; have H_hs4 := Lib.hid hs4; have H_hs5 := Lib.hid hs5; have H_hput := Lib.hid hput; have H_hget := Lib.hid hget; have H_hdel := Lib.hid hdel; have H_happ := Lib.hid happ; have H_hnil := Lib.hid hnil; have H_hc1 := Lib.hid hc1; have H_h112 := Lib.hid h112; have H_hln1 := Lib.hid hln1; have H_hln2 := Lib.hid hln2; have H_hl1 := Lib.hid hl1; have H_hl2 := Lib.hid hl2; have H_hk := Lib.hid hk
  clear m1 m2 m3 m4 m5 b8 p1 hs1 hs2 hs3 hs4 hs5 hput hget hdel happ hnil hc1 h112 hln1 hln2 hl1 hl2 hk f1 f2 g1 g2 p2 hL1 hL2
  have HB0 := Lib.hid (Below.refl w.heap.size w)
  go_enter Tryz.func4, Tryz.ntmps4
  obtain ⟨X1, hX⟩ : ∃ X, ((w.alloc (.cells #[.int .i64 1] 3)).alloc (.cells #[.int .i64 2, .int .i64 3] 3)) = X := ⟨_, rfl⟩
  have hx : Below w.heap.size w X1 := by rw [← hX]; exact (((Below.refl w.heap.size w).alloc (Nat.le_refl _) _).alloc (by simp) _)
  have r1 : Row .i64 X1 (.slice (some ⟨w.heap.size, 0, none⟩) 1 1) [1] := by rw [← hX]; exact (Row.lit .i64 w 3 [1] (by unfold maxLen; simp) (by decide)).alloc _
  have r2 : Row .i64 X1 (.slice (some ⟨w.heap.size + 1, 0, none⟩) 2 2) [2, 3] := by rw [← hX]; exact (by have := Row.lit .i64 (w.alloc (.cells #[.int .i64 1] 3)) 3 [2, 3] (by unfold maxLen; simp) (by decide); rw [World.size_alloc] at this; exact this)
  have HBX1 := Lib.hid (HB0.out.trans (hx.mono HB0.out.size))
  have HX := Lib.hid hX
  clear hX hx
  have hC := Make_any _ _ [1] [2, 3] 7 X1 r1 r2 (by simp) (by simp)
  rw [H_m1.out] at hC
  clear r1 r2
  go_wp2_with fail
  rw [HX.out]
  (try go_wp2_with fail)
  refine hC.mono ?_; rintro e W1 ⟨hres, hb⟩
  have HBW1 := Lib.hid (HBX1.out.trans (hb.mono HBX1.out.size))
  clear hC hb HX
  obtain ⟨a1, c1, rfl, hs⟩ := hres
  obtain ⟨X2, hX⟩ : ∃ X, ((W1.alloc (.cells #[.int .i64 7, .slice a1 l1.length c1] 24)).alloc (.cells #[.int .i64 2, .int .i64 3] 3)) = X := ⟨_, rfl⟩
  have hx : Below W1.heap.size W1 X2 := by rw [← hX]; exact (((Below.refl W1.heap.size W1).alloc (Nat.le_refl _) _).alloc (by simp) _)
  have c : AtA X2 W1.heap.size 7 l1 := by rw [← hX]; exact (AtA.new hs).alloc _
  have r2 : Row .i64 X2 (.slice (some ⟨W1.heap.size + 1, 0, none⟩) 2 2) [2, 3] := by rw [← hX]; exact (by have := Row.lit .i64 (W1.alloc (.cells #[.int .i64 7, .slice a1 l1.length c1] 24)) 3 [2, 3] (by unfold maxLen; simp) (by decide); rw [World.size_alloc] at this; exact this)
  have HBX2 := Lib.hid (HBW1.out.trans (hx.mono HBW1.out.size))
  have HX := Lib.hid hX
  clear hX hx
  have hC := Make_any (.slice none 0 0) _ [] [2, 3] 7 X2 (Row.nil _ _) r2 (by simp) (by simp)
  rw [H_m2.out] at hC
  clear r2 hs
  have C_c := Lib.hid c
  clear c
  go_wp2_with fail
  rw [HX.out]
  (try go_wp2_with fail)
  refine hC.mono ?_; rintro e W2 ⟨hres, hb⟩
  have HBW2 := Lib.hid (HBX2.out.trans (hb.mono HBX2.out.size))
  have c := C_c.out.below hb
  clear hC hb HX C_c
  obtain ⟨a2, c2, rfl, hs⟩ := hres
  obtain ⟨X3, hX⟩ : ∃ X, (((W2.alloc (.cells #[.int .i64 7, .slice a2 l2.length c2] 24)).alloc (.cells #[.int .i64 1] 3)).alloc (.cells #[.int .i64 1] 3)) = X := ⟨_, rfl⟩
  have hx : Below W2.heap.size W2 X3 := by rw [← hX]; exact ((((Below.refl W2.heap.size W2).alloc (Nat.le_refl _) _).alloc (by simp) _).alloc (by simp; omega) _)
  have d : AtA X3 W2.heap.size 7 l2 := by rw [← hX]; exact ((AtA.new hs).alloc _).alloc _
  have r1 : Row .i64 X3 (.slice (some ⟨W2.heap.size + 1, 0, none⟩) 1 1) [1] := by rw [← hX]; exact (by have := (Row.lit .i64 (W2.alloc (.cells #[.int .i64 7, .slice a2 l2.length c2] 24)) 3 [1] (by unfold maxLen; simp) (by decide)).alloc (.cells #[.int .i64 1] 3); rw [World.size_alloc] at this; exact this)
  have r2 : Row .i64 X3 (.slice (some ⟨W2.heap.size + 1 + 1, 0, none⟩) 1 1) [1] := by rw [← hX]; exact (by have := Row.lit .i64 ((W2.alloc (.cells #[.int .i64 7, .slice a2 l2.length c2] 24)).alloc (.cells #[.int .i64 1] 3)) 3 [1] (by unfold maxLen; simp) (by decide); rw [World.size_alloc, World.size_alloc] at this; exact this)
  replace c := c.below hx
  have HBX3 := Lib.hid (HBW2.out.trans (hx.mono HBW2.out.size))
  have HX := Lib.hid hX
  clear hX hx
  have hC := Make_any _ _ [1] [1] 7 X3 r1 r2 (by simp) (by simp)
  rw [H_m3.out] at hC
  clear r1 r2 hs
  have C_c := Lib.hid c
  have C_d := Lib.hid d
  clear c d
  go_wp2_with fail
  rw [HX.out]
  (try go_wp2_with fail)
  refine hC.mono ?_; rintro e W3 ⟨hres, hb⟩
  have HBW3 := Lib.hid (HBX3.out.trans (hb.mono HBX3.out.size))
  have c := C_c.out.below hb
  have d := C_d.out.below hb
  clear hC hb HX C_c C_d
  obtain rfl : e = _ := hres
  obtain ⟨X4, hX⟩ : ∃ X, ((W3.alloc (.cells #[.int .i64 0, .slice none 0 0] 24)).alloc (.cells #[.int .i64 2, .int .i64 1] 3)) = X := ⟨_, rfl⟩
  have hx : Below W3.heap.size W3 X4 := by rw [← hX]; exact (((Below.refl W3.heap.size W3).alloc (Nat.le_refl _) _).alloc (by simp) _)
  have r1 : Row .i64 X4 (.slice (some ⟨W3.heap.size + 1, 0, none⟩) 2 2) [2, 1] := by rw [← hX]; exact (by have := Row.lit .i64 (W3.alloc (.cells #[.int .i64 0, .slice none 0 0] 24)) 3 [2, 1] (by unfold maxLen; simp) (by decide); rw [World.size_alloc] at this; exact this)
  replace c := c.below hx
  replace d := d.below hx
  have HBX4 := Lib.hid (HBW3.out.trans (hx.mono HBW3.out.size))
  have HX := Lib.hid hX
  clear hX hx
  have hC := Make_any _ (.slice none 0 0) [2, 1] [] 7 X4 r1 (Row.nil _ _) (by simp) (by simp)
  rw [H_m4.out] at hC
  clear r1
  have C_c := Lib.hid c
  have C_d := Lib.hid d
  clear c d
  go_wp2_with fail
  rw [HX.out]
  (try go_wp2_with fail)
  refine hC.mono ?_; rintro e W4 ⟨hres, hb⟩
  have HBW4 := Lib.hid (HBX4.out.trans (hb.mono HBX4.out.size))
  have c := C_c.out.below hb
  have d := C_d.out.below hb
  clear hC hb HX C_c C_d
  obtain rfl : e = _ := hres
  obtain ⟨za, zc, dz, sz⟩ := c; have c : AtA W4 W1.heap.size 7 l1 := ⟨za, zc, dz, sz⟩; have y0 := dz.cell0; have y1 := dz.cell1; have yl := dz.lt
  obtain ⟨X5, hX⟩ : ∃ X, (W4.alloc (.cells #[.int .i64 0, .slice none 0 0] 24)) = X := ⟨_, rfl⟩
  have hx : Below W4.heap.size W4 X5 := by rw [← hX]; exact ((Below.refl W4.heap.size W4).alloc (Nat.le_refl _) _)
  replace c := c.below hx
  replace d := d.below hx
  replace sz := sz.below hx
  have HBX5 := Lib.hid (HBW4.out.trans (hx.mono HBW4.out.size))
  have HX := Lib.hid hX
  clear hX hx
  have hC := CPut_any 7 _ l1 X5 (H_hk.out.below HBX5.out) sz (by have := H_hln1.out; omega)
  rw [H_hput.out] at hC
  clear dz sz
  have C_c := Lib.hid c
  have C_d := Lib.hid d
  clear c d
  go_wp2_with fail
  rw [HX.out]
  (try go_wp2_with fail)
  refine hC.mono ?_; rintro e W5 ⟨hres, hb⟩
  have HBW5 := Lib.hid (HBX5.out.trans (hb.mono HBX5.out.size))
  have c := C_c.out.below hb
  have d := C_d.out.below hb
  clear hC hb HX C_c C_d
  obtain ⟨a5, c5, rfl, rb⟩ := hres
  clear y0 y1 yl
  have hC := CGet_any _ L1 W5 (H_hk.out.below HBW5.out) rb (by have := H_hl1.out; omega)
  rw [H_hget.out] at hC
  clear rb
  have C_c := Lib.hid c
  have C_d := Lib.hid d
  clear c d
  go_wp2_with fail
  refine hC.mono ?_; rintro e W6 ⟨hres, hb⟩
  have HBW6 := Lib.hid (HBW5.out.trans (hb.mono HBW5.out.size))
  have c := C_c.out.below hb
  have d := C_d.out.below hb
  clear hC hb C_c C_d
  obtain ⟨a6, c6, rfl, hs⟩ := hres
  obtain ⟨za, zc, dz, sz⟩ := c; have c : AtA W6 W1.heap.size 7 l1 := ⟨za, zc, dz, sz⟩; have y0 := dz.cell0; have y1 := dz.cell1; have yl := dz.lt
  obtain ⟨ua, uc, du, su⟩ := d; have d : AtA W6 W2.heap.size 7 l2 := ⟨ua, uc, du, su⟩; have t0 := du.cell0; have t1 := du.cell1; have tl := du.lt
  obtain ⟨X6, hX⟩ : ∃ X, (W6.alloc (.cells #[.int .i64 7, .slice a6 l1.length c6] 24)) = X := ⟨_, rfl⟩
  have hx : Below W6.heap.size W6 X6 := by rw [← hX]; exact ((Below.refl W6.heap.size W6).alloc (Nat.le_refl _) _)
  have x : AtA X6 W6.heap.size 7 l1 := by rw [← hX]; exact AtA.new hs
  replace c := c.below hx
  replace d := d.below hx
  replace sz := sz.below hx
  replace su := su.below hx
  have HBX6 := Lib.hid (HBW6.out.trans (hx.mono HBW6.out.size))
  have HX := Lib.hid hX
  clear hX hx
  have hC := CDelta_any 7 7 _ _ l1 l2 X6 (H_hk.out.below HBX6.out) sz su (by have := H_hln1.out; omega) (by have := H_hln2.out; omega)
  rw [H_hdel.out] at hC
  clear dz sz du su hs
  have C_c := Lib.hid c
  have C_d := Lib.hid d
  have C_x := Lib.hid x
  clear c d x
  go_wp2_with fail
  rw [HX.out]
  (try go_wp2_with fail)
  refine hC.mono ?_; rintro e W7 ⟨hres, hb⟩
  have HBW7 := Lib.hid (HBX6.out.trans (hb.mono HBX6.out.size))
  have c := C_c.out.below hb
  have d := C_d.out.below hb
  have x := C_x.out.below hb
  clear hC hb HX C_c C_d C_x
  obtain ⟨a7, c7, rfl, rb⟩ := hres
  clear y0 y1 yl t0 t1 tl
  obtain ⟨za, zc, dz, sz⟩ := c; have c : AtA W7 W1.heap.size 7 l1 := ⟨za, zc, dz, sz⟩; have y0 := dz.cell0; have y1 := dz.cell1; have yl := dz.lt
  have hC := CApply_any 7 _ _ l1 L2 W7 (H_hk.out.below HBW7.out) sz rb (by have := H_hln1.out; omega) (by have := H_hl2.out; omega)
  rw [H_happ.out] at hC
  clear dz sz rb
  have C_c := Lib.hid c
  have C_d := Lib.hid d
  have C_x := Lib.hid x
  clear c d x
  go_wp2_with fail
  refine hC.mono ?_; rintro e W8 ⟨hres, hb⟩
  have HBW8 := Lib.hid (HBW7.out.trans (hb.mono HBW7.out.size))
  have c := C_c.out.below hb
  have d := C_d.out.below hb
  have x := C_x.out.below hb
  clear hC hb C_c C_d C_x
  obtain ⟨a8, c8, rfl, hs⟩ := hres
  clear y0 y1 yl
  obtain ⟨za, zc, dz, sz⟩ := x; have x : AtA W8 W6.heap.size 7 l1 := ⟨za, zc, dz, sz⟩; have y0 := dz.cell0; have y1 := dz.cell1; have yl := dz.lt
  obtain ⟨X7, hX⟩ : ∃ X, (W8.alloc (.cells #[.int .i64 7, .slice a8 l2.length c8] 24)) = X := ⟨_, rfl⟩
  have hx : Below W8.heap.size W8 X7 := by rw [← hX]; exact ((Below.refl W8.heap.size W8).alloc (Nat.le_refl _) _)
  have y : AtA X7 W8.heap.size 7 l2 := by rw [← hX]; exact AtA.new hs
  replace c := c.below hx
  replace d := d.below hx
  replace x := x.below hx
  replace sz := sz.below hx
  have HBX7 := Lib.hid (HBW8.out.trans (hx.mono HBW8.out.size))
  have HX := Lib.hid hX
  clear hX hx
  have hC := CApply_any 7 _ (.slice none 0 0) l1 [] X7 (H_hk.out.below HBX7.out) sz (Row.nil _ _) (by have := H_hln1.out; omega) (by simp)
  rw [H_hnil.out] at hC
  clear dz sz hs
  have C_c := Lib.hid c
  have C_d := Lib.hid d
  have C_x := Lib.hid x
  have C_y := Lib.hid y
  clear c d x y
  go_wp2_with fail
  rw [HX.out]
  (try go_wp2_with fail)
  refine hC.mono ?_; rintro e W9 ⟨hres, hb⟩
  have HBW9 := Lib.hid (HBX7.out.trans (hb.mono HBX7.out.size))
  have c := C_c.out.below hb
  have d := C_d.out.below hb
  have x := C_x.out.below hb
  have y := C_y.out.below hb
  clear hC hb HX C_c C_d C_x C_y
  obtain rfl : e = _ := hres
  clear y0 y1 yl
  obtain ⟨za, zc, dz, sz⟩ := c; have c : AtA W9 W1.heap.size 7 l1 := ⟨za, zc, dz, sz⟩; have y0 := dz.cell0; have y1 := dz.cell1; have yl := dz.lt
  obtain ⟨X8, hX⟩ : ∃ X, (W9.alloc (.cells #[.int .i64 0, .slice none 0 0] 24)) = X := ⟨_, rfl⟩
  have hx : Below W9.heap.size W9 X8 := by rw [← hX]; exact ((Below.refl W9.heap.size W9).alloc (Nat.le_refl _) _)
  replace c := c.below hx
  replace d := d.below hx
  replace x := x.below hx
  replace y := y.below hx
  replace sz := sz.below hx
  have HBX8 := Lib.hid (HBW9.out.trans (hx.mono HBW9.out.size))
  have HX := Lib.hid hX
  clear hX hx
  have hC := CHas_any 7 _ l1 1 X8 sz (by have := H_hln1.out; omega)
  rw [H_hs1.out] at hC
  clear dz sz
  have C_c := Lib.hid c
  have C_d := Lib.hid d
  have C_x := Lib.hid x
  have C_y := Lib.hid y
  clear c d x y
  go_wp2_with fail
  rw [HX.out]
  (try go_wp2_with fail)
  refine hC.mono ?_; rintro e W10 ⟨rfl, hb⟩
  have HBW10 := Lib.hid (HBX8.out.trans (hb.mono HBX8.out.size))
  have c := C_c.out.below hb
  have d := C_d.out.below hb
  have x := C_x.out.below hb
  have y := C_y.out.below hb
  clear hC hb HX C_c C_d C_x C_y
  clear y0 y1 yl
  obtain ⟨za, zc, dz, sz⟩ := c; have c : AtA W10 W1.heap.size 7 l1 := ⟨za, zc, dz, sz⟩; have y0 := dz.cell0; have y1 := dz.cell1; have yl := dz.lt
  have hC := CHas_any 7 _ l1 2 W10 sz (by have := H_hln1.out; omega)
  rw [H_hs2.out] at hC
  clear dz sz
  have C_c := Lib.hid c
  have C_d := Lib.hid d
  have C_x := Lib.hid x
  have C_y := Lib.hid y
  clear c d x y
  go_wp2_with fail
  refine hC.mono ?_; rintro e W11 ⟨rfl, hb⟩
  have HBW11 := Lib.hid (HBW10.out.trans (hb.mono HBW10.out.size))
  have c := C_c.out.below hb
  have d := C_d.out.below hb
  have x := C_x.out.below hb
  have y := C_y.out.below hb
  clear hC hb C_c C_d C_x C_y
  clear y0 y1 yl
  obtain ⟨za, zc, dz, sz⟩ := c; have c : AtA W11 W1.heap.size 7 l1 := ⟨za, zc, dz, sz⟩; have y0 := dz.cell0; have y1 := dz.cell1; have yl := dz.lt
  have hC := CHas_any 7 _ l1 3 W11 sz (by have := H_hln1.out; omega)
  rw [H_hs3.out] at hC
  clear dz sz
  have C_c := Lib.hid c
  have C_d := Lib.hid d
  have C_x := Lib.hid x
  have C_y := Lib.hid y
  clear c d x y
  go_wp2_with fail
  refine hC.mono ?_; rintro e W12 ⟨rfl, hb⟩
  have HBW12 := Lib.hid (HBW11.out.trans (hb.mono HBW11.out.size))
  have c := C_c.out.below hb
  have d := C_d.out.below hb
  have x := C_x.out.below hb
  have y := C_y.out.below hb
  clear hC hb C_c C_d C_x C_y
  clear y0 y1 yl
  obtain ⟨za, zc, dz, sz⟩ := d; have d : AtA W12 W2.heap.size 7 l2 := ⟨za, zc, dz, sz⟩; have y0 := dz.cell0; have y1 := dz.cell1; have yl := dz.lt
  have hC := CHas_any 7 _ l2 2 W12 sz (by have := H_hln2.out; omega)
  rw [H_hs4.out] at hC
  clear dz sz
  have C_c := Lib.hid c
  have C_d := Lib.hid d
  have C_x := Lib.hid x
  have C_y := Lib.hid y
  clear c d x y
  go_wp2_with fail
  refine hC.mono ?_; rintro e W13 ⟨rfl, hb⟩
  have HBW13 := Lib.hid (HBW12.out.trans (hb.mono HBW12.out.size))
  have c := C_c.out.below hb
  have d := C_d.out.below hb
  have x := C_x.out.below hb
  have y := C_y.out.below hb
  clear hC hb C_c C_d C_x C_y
  clear y0 y1 yl
  obtain ⟨za, zc, dz, sz⟩ := d; have d : AtA W13 W2.heap.size 7 l2 := ⟨za, zc, dz, sz⟩; have y0 := dz.cell0; have y1 := dz.cell1; have yl := dz.lt
  have hC := CHas_any 7 _ l2 3 W13 sz (by have := H_hln2.out; omega)
  rw [H_hs5.out] at hC
  clear dz sz
  have C_c := Lib.hid c
  have C_d := Lib.hid d
  have C_x := Lib.hid x
  have C_y := Lib.hid y
  clear c d x y
  go_wp2_with fail
  refine hC.mono ?_; rintro e W14 ⟨rfl, hb⟩
  have HBW14 := Lib.hid (HBW13.out.trans (hb.mono HBW13.out.size))
  have c := C_c.out.below hb
  have d := C_d.out.below hb
  have x := C_x.out.below hb
  have y := C_y.out.below hb
  clear hC hb C_c C_d C_x C_y
  clear y0 y1 yl
  obtain ⟨za0a, za0c, zad, zas⟩ := x; have x : AtA W14 W6.heap.size 7 l1 := ⟨za0a, za0c, zad, zas⟩; have za0 := zad.cell0; have za1 := zad.cell1; have zal := zad.lt
  obtain ⟨zb0a, zb0c, zbd, zbs⟩ := c; have c : AtA W14 W1.heap.size 7 l1 := ⟨zb0a, zb0c, zbd, zbs⟩; have zb0 := zbd.cell0; have zb1 := zbd.cell1; have zbl := zbd.lt
  have hl1n : ¬ ((l1.length : Nat) : Int) = 0 := by have := H_p1.out; omega
  have hl1n' : ¬ l1 = [] := by rintro rfl; have := H_p1.out; simp at this
  have hl1p : (0 : Int) < ((l1.length : Nat) : Int) := by have := H_p1.out; omega
  have hC := CSame_any 7 7 l1 l1 _ _ W14 zas zbs
  rw [decide_eq_true ⟨rfl, rfl⟩] at hC
  clear zad zas zbd zbs
  have C_c := Lib.hid c
  have C_d := Lib.hid d
  have C_x := Lib.hid x
  have C_y := Lib.hid y
  clear c d x y
  go_wp2_with fail
  refine hC.mono ?_; rintro e W15 ⟨rfl, hb⟩
  have HBW15 := Lib.hid (HBW14.out.trans (hb.mono HBW14.out.size))
  have c := C_c.out.below hb
  have d := C_d.out.below hb
  have x := C_x.out.below hb
  have y := C_y.out.below hb
  clear hC hb C_c C_d C_x C_y
  clear za0 za1 zal zb0 zb1 zbl
  obtain ⟨za0a, za0c, zad, zas⟩ := y; have y : AtA W15 W8.heap.size 7 l2 := ⟨za0a, za0c, zad, zas⟩; have za0 := zad.cell0; have za1 := zad.cell1; have zal := zad.lt
  obtain ⟨zb0a, zb0c, zbd, zbs⟩ := d; have d : AtA W15 W2.heap.size 7 l2 := ⟨zb0a, zb0c, zbd, zbs⟩; have zb0 := zbd.cell0; have zb1 := zbd.cell1; have zbl := zbd.lt
  have hC := CSame_any 7 7 l2 l2 _ _ W15 zas zbs
  rw [decide_eq_true ⟨rfl, rfl⟩] at hC
  clear zad zas zbd zbs
  have C_c := Lib.hid c
  have C_d := Lib.hid d
  have C_x := Lib.hid x
  have C_y := Lib.hid y
  clear c d x y
  go_wp2_with fail
  refine hC.mono ?_; rintro e W16 ⟨rfl, hb⟩
  have HBW16 := Lib.hid (HBW15.out.trans (hb.mono HBW15.out.size))
  have c := C_c.out.below hb
  have d := C_d.out.below hb
  have x := C_x.out.below hb
  have y := C_y.out.below hb
  clear hC hb C_c C_d C_x C_y
  clear za0 za1 zal zb0 zb1 zbl
  obtain ⟨zb0a, zb0c, zbd, zbs⟩ := c; have c : AtA W16 W1.heap.size 7 l1 := ⟨zb0a, zb0c, zbd, zbs⟩; have zb0 := zbd.cell0; have zb1 := zbd.cell1; have zbl := zbd.lt
  have HLV : Hid (∃ b off, zb0a = some ⟨b, off, none⟩ ∧ b < W16.heap.size ∧ W16.cell? ⟨b, off, none⟩ = some (.int .i64 8) ∧ W16.cell? ⟨b, off + 2, none⟩ = some (.int .i64 112)) := Lib.hid (by
    obtain ⟨_, _, e', _, _, _, h5⟩ := zbs
    cases e'
    obtain ⟨b, off, rfl, hlt, hc⟩ := h5 hl1n'
    obtain ⟨vb, _, k0, k1, k2, k3⟩ := hc 0 (by have := H_p1.out; omega)
    rw [H_b8.out] at k0
    rw [H_h112.out] at k2
    exact ⟨b, off, rfl, hlt, by simpa using k0, by simpa using k2⟩)
  obtain ⟨lb, lo, rfl, llt, lv0, lv2⟩ := HLV.out
  clear HLV
  have hC := CCheck_any 7 _ l1 W16 zbs (by have := H_hln1.out; omega)
  rw [H_hc1.out] at hC
  clear zbd zbs
  have C_c := Lib.hid c
  have C_d := Lib.hid d
  have C_x := Lib.hid x
  have C_y := Lib.hid y
  clear c d x y
  go_wp2_with fail
  refine hC.mono ?_; rintro e W17 ⟨rfl, hb⟩
  have HBW17 := Lib.hid (HBW16.out.trans (hb.mono HBW16.out.size))
  have c := C_c.out.below hb
  have d := C_d.out.below hb
  have x := C_x.out.below hb
  have y := C_y.out.below hb
  clear hC hb C_c C_d C_x C_y
  clear zb0 zb1 zbl lv0 lv2 llt
  have hC := CCheck_any (-1) (.slice none 0 0) [] W17 (Svs.nil _) (by simp)
  rw [H_m5.out] at hC
  have C_c := Lib.hid c
  have C_d := Lib.hid d
  have C_x := Lib.hid x
  have C_y := Lib.hid y
  clear c d x y
  go_wp2_with fail
  refine hC.mono ?_; rintro e W18 ⟨rfl, hb⟩
  have HBW18 := Lib.hid (HBW17.out.trans (hb.mono HBW17.out.size))
  have c := C_c.out.below hb
  have d := C_d.out.below hb
  have x := C_x.out.below hb
  have y := C_y.out.below hb
  clear hC hb C_c C_d C_x C_y
  go_wp2_with fail
  go_ret
  exact ⟨rfl, HBW18.out⟩
end Go.Proofs.YtfdchdnkblmijaaGreatDoor
