/-
  The walk over CascadePuts. (Printed by wip/gen_cputs.py.)
-/
import Derived.Test.YtfdchdnkblmijaaGreatDoorKl
import Derived.Test.YtfdchdnkblmijaaGreatDoorJc
import Derived.Test.YtfdchdnkblmijaaGreatDoorCq
import Derived.Test.YtfdchdnkblmijaaGreatDoorYq
import Derived.Test.YtfdchdnkblmijaaGreatDoorQh
namespace Go.Proofs.YtfdchdnkblmijaaGreatDoor
open Go.RowKit

/-- What comes back of bytes, of a cascade: with the code. -/
def bytO : Except Int (List Int) → List Int × Int
  | .error c => ([], c)
  | .ok l => (l, 0)
def cascO : Except Int (Int × List Sm.Sv) → Int × List Sm.Sv × Int
  | .error c => (0, [], c)
  | .ok (d, l) => (d, l, 0)
theorem BytR.outO {w : World} {e : Ending} {P : Except Int (List Int)} (h : BytR w e P) : ∃ a c, e = .returned (.tuple #[.slice a (bytO P).1.length c, .int .i64 (bytO P).2]) ∧ Row .u8 w (.slice a (bytO P).1.length c) (bytO P).1 := by
  cases P with
  | error c => exact ⟨none, 0, h, Row.nil _ _⟩
  | ok l => obtain ⟨a, c, e, r⟩ := h; exact ⟨a, c, e, r⟩
theorem CascR.outO {w : World} {e : Ending} {Z : Except Int (Int × List Sm.Sv)} (h : CascR w e Z) : ∃ a c, e = .returned (.tuple #[.agg #[.int .i64 (cascO Z).1, .slice a (cascO Z).2.1.length c], .int .i64 (cascO Z).2.2]) ∧ Svs w (.slice a (cascO Z).2.1.length c) (cascO Z).2.1 := by
  match Z, h with
  | .error c, h => exact ⟨none, 0, h, Svs.nil _⟩
  | .ok (d, l), h => obtain ⟨a, c, e, r⟩ := h; exact ⟨a, c, e, r⟩
theorem cascO_few {b : List Int} (hb : ∀ y ∈ b, byte y) : (cascO (Cm.get b)).2.1.length ≤ 16 := by
  cases hg : Cm.get b with
  | error c => simp [cascO]
  | ok p =>
    obtain ⟨d, l⟩ := p
    obtain ⟨h1, -, -⟩ := Cm.get_put hb hg
    exact (Cm.chk_zero.1 h1).1

set_option maxRecDepth 100000 in
set_option maxHeartbeats 8000000 in
theorem CascadePuts_any (day : Int) (vl : Value) (ls : List Sm.Sv) (v : Value) (l : List Int) (w : World) (hk : KindsAt w) (h1 : Svs w vl ls) (h2 : Row .u8 w v l) :
    Calls Tryz.prog 3 #[.agg #[.int .i64 day, vl], v] w fun e w' => e = .returned (.bool true) ∧ Below w.heap.size w w' := by
  obtain ⟨a1, c1, rfl⟩ := h1.shape
  obtain ⟨a2, c2, rfl⟩ := h2.shape l.length rfl
  have hby := h2.all_byte
  obtain ⟨n2, hn2⟩ : ∃ n, l.length = n := ⟨_, rfl⟩
  rw [hn2] at h2 ⊢
  have r := h2
  have H_hk := Lib.hid hk; have HBY := Lib.hid hby; have HN2 := Lib.hid hn2
  have HB0 := Lib.hid (Below.refl w.heap.size w)
  clear h2 hby hn2 hk
  go_enter Tryz.func3, Tryz.ntmps3
  obtain ⟨X1, hX⟩ : ∃ X, (w.alloc (.cells #[.int .i64 day, .slice a1 ls.length c1] 24)) = X := ⟨_, rfl⟩
  have hx : Below w.heap.size w X1 := by rw [← hX]; exact ((Below.refl w.heap.size w).alloc (Nat.le_refl _) _)
  have c : AtA X1 w.heap.size day ls := by rw [← hX]; exact AtA.new h1
  replace r := r.below hx
  have HBX1 := Lib.hid (HB0.out.trans (hx.mono HB0.out.size))
  have HX := Lib.hid hX
  clear hX hx
  clear h1
  have hC := live10_true X1 (H_hk.out.below HBX1.out)
  have C_c := Lib.hid c
  have C_r := Lib.hid r
  clear c r
  go_wp2_with fail
  rw [HX.out]
  (try go_wp2_with fail)
  refine hC.mono ?_; rintro e W2 ⟨rfl, hb⟩
  have HBW2 := Lib.hid (HBX1.out.trans (hb.mono HBX1.out.size))
  have c := C_c.out.below hb
  have r := C_r.out.below hb
  clear hC hb HX C_c C_r
  obtain ⟨ya, yc, yd, ys⟩ := c; have c : AtA W2 w.heap.size day ls := ⟨ya, yc, yd, ys⟩; have y0 := yd.cell0; have y1 := yd.cell1; have yl := yd.lt
  have hC := RFew_any day _ ls W2 ys
  obtain ⟨F, hF⟩ : ∃ F, decide (FewC ls) = F := ⟨_, rfl⟩
  rw [hF] at hC
  have HF := Lib.hid hF
  clear hF yd ys
  have C_c := Lib.hid c
  have C_r := Lib.hid r
  clear c r
  go_wp2_with fail
  refine hC.mono ?_; rintro e W3 ⟨rfl, hb⟩
  have HBW3 := Lib.hid (HBW2.out.trans (hb.mono HBW2.out.size))
  have c := C_c.out.below hb
  have r := C_r.out.below hb
  clear hC hb C_c C_r
  clear y0 y1 yl
  cases F with
  | false =>
    go_wp2_with fail
    go_ret
    exact ⟨rfl, HBW3.out⟩
  | true =>
    have hfew := of_decide_eq_true HF.out
    have HFew := Lib.hid hfew
    clear hfew HF
    by_cases hs : 2000 < n2
    · have q2 : (2000 : Int) < (n2 : Int) := by omega
      clear hs
      go_wp2_with fail
      go_ret
      exact ⟨rfl, HBW3.out⟩
    have q2 : ¬ (2000 : Int) < (n2 : Int) := by omega
    have HS := Lib.hid hs
    clear hs
    obtain ⟨⟨L, e1⟩, hP⟩ : ∃ P, bytO (Cm.putR day ls) = P := ⟨_, rfl⟩
    obtain ⟨n3, hn3⟩ : ∃ n, L.length = n := ⟨_, rfl⟩
    have HP := Lib.hid hP; have HN3 := Lib.hid hn3
    clear hP hn3
    obtain ⟨ya, yc, yd, ys⟩ := c; have c : AtA W3 w.heap.size day ls := ⟨ya, yc, yd, ys⟩; have y0 := yd.cell0; have y1 := yd.cell1; have yl := yd.lt
    have hC := (CPut_any day _ ls W3 (H_hk.out.below HBW3.out) ys (by have := HFew.out.1; omega)).mono (fun _ _ h => And.intro h.1.outO h.2)
    rw [HP.out] at hC
    dsimp only at hC
    rw [HN3.out] at hC
    clear yd ys
    have C_c := Lib.hid c
    have C_r := Lib.hid r
    clear c r
    go_wp2_with fail
    refine hC.mono ?_; rintro e W4 ⟨⟨a3, c3, rfl, p1⟩, hb⟩
    have HBW4 := Lib.hid (HBW3.out.trans (hb.mono HBW3.out.size))
    have c := C_c.out.below hb
    have r := C_r.out.below hb
    clear hC hb C_c C_r
    clear y0 y1 yl
    clear q2
    obtain ⟨ya, yc, yd, ys⟩ := c; have c : AtA W4 w.heap.size day ls := ⟨ya, yc, yd, ys⟩; have y0 := yd.cell0; have y1 := yd.cell1; have yl := yd.lt
    have hC := (Put10_any day _ ls W4 (H_hk.out.below HBW4.out) ys (by have := HFew.out.1; omega)).mono (fun _ _ h => And.intro h.1.outO h.2)
    rw [HP.out] at hC
    dsimp only at hC
    rw [HN3.out] at hC
    clear yd ys
    have C_c := Lib.hid c
    have C_r := Lib.hid r
    have C_p1 := Lib.hid p1
    clear c r p1
    go_wp2_with fail
    refine hC.mono ?_; rintro e W5 ⟨⟨a4, c4, rfl, p2⟩, hb⟩
    have HBW5 := Lib.hid (HBW4.out.trans (hb.mono HBW4.out.size))
    have c := C_c.out.below hb
    have r := C_r.out.below hb
    have p1 := C_p1.out.below hb
    clear hC hb C_c C_r C_p1
    clear y0 y1 yl
    have hf16 := cascO_few HBY.out
    obtain ⟨⟨D, l2, e2⟩, hG⟩ : ∃ P, cascO (Cm.get l) = P := ⟨_, rfl⟩
    rw [hG] at hf16
    dsimp only at hf16
    have HG := Lib.hid hG; have HL2 := Lib.hid hf16
    clear hG hf16
    have hC := (CGet_any _ l W5 (H_hk.out.below HBW5.out) r (by have := HN2.out; have := HS.out; omega)).mono (fun _ _ h => And.intro h.1.outO h.2)
    rw [HG.out] at hC
    dsimp only at hC
    have C_c := Lib.hid c
    have C_r := Lib.hid r
    have C_p1 := Lib.hid p1
    have C_p2 := Lib.hid p2
    clear c r p1 p2
    go_wp2_with fail
    refine hC.mono ?_; rintro e W6 ⟨⟨a5, c5, rfl, hs⟩, hb⟩
    have HBW6 := Lib.hid (HBW5.out.trans (hb.mono HBW5.out.size))
    have c := C_c.out.below hb
    have r := C_r.out.below hb
    have p1 := C_p1.out.below hb
    have p2 := C_p2.out.below hb
    clear hC hb C_c C_r C_p1 C_p2
    obtain ⟨X7, hX⟩ : ∃ X, (W6.alloc (.cells #[.int .i64 D, .slice a5 l2.length c5] 24)) = X := ⟨_, rfl⟩
    have hx : Below W6.heap.size W6 X7 := by rw [← hX]; exact ((Below.refl W6.heap.size W6).alloc (Nat.le_refl _) _)
    have ee : AtA X7 W6.heap.size D l2 := by rw [← hX]; exact AtA.new hs
    replace c := c.below hx
    replace r := r.below hx
    replace p1 := p1.below hx
    replace p2 := p2.below hx
    have HBX7 := Lib.hid (HBW6.out.trans (hx.mono HBW6.out.size))
    have HX := Lib.hid hX
    clear hX hx
    clear hs
    have hC := (Get10_any _ l X7 r (by have := HN2.out; have := HS.out; omega)).mono (fun _ _ h => And.intro h.1.outO h.2)
    rw [HG.out] at hC
    dsimp only at hC
    have C_c := Lib.hid c
    have C_ee := Lib.hid ee
    have C_r := Lib.hid r
    have C_p1 := Lib.hid p1
    have C_p2 := Lib.hid p2
    clear c ee r p1 p2
    go_wp2_with fail
    rw [HX.out]
    (try go_wp2_with fail)
    refine hC.mono ?_; rintro e W8 ⟨⟨a6, c6, rfl, hs⟩, hb⟩
    have HBW8 := Lib.hid (HBX7.out.trans (hb.mono HBX7.out.size))
    have c := C_c.out.below hb
    have ee := C_ee.out.below hb
    have r := C_r.out.below hb
    have p1 := C_p1.out.below hb
    have p2 := C_p2.out.below hb
    clear hC hb HX C_c C_ee C_r C_p1 C_p2
    obtain ⟨X9, hX⟩ : ∃ X, (W8.alloc (.cells #[.int .i64 D, .slice a6 l2.length c6] 24)) = X := ⟨_, rfl⟩
    have hx : Below W8.heap.size W8 X9 := by rw [← hX]; exact ((Below.refl W8.heap.size W8).alloc (Nat.le_refl _) _)
    have ff : AtA X9 W8.heap.size D l2 := by rw [← hX]; exact AtA.new hs
    replace c := c.below hx
    replace ee := ee.below hx
    replace r := r.below hx
    replace p1 := p1.below hx
    replace p2 := p2.below hx
    have HBX9 := Lib.hid (HBW8.out.trans (hx.mono HBW8.out.size))
    have HX := Lib.hid hX
    clear hX hx
    clear hs
    go_upto_region 11 with fail
    rw [HX.out]
    clear HX
    obtain ⟨ya, yc, yd, ys⟩ := ee; have ee : AtA X9 W6.heap.size D l2 := ⟨ya, yc, yd, ys⟩; have y0 := yd.cell0; have y1 := yd.cell1; have yl := yd.lt
    obtain ⟨ta, tc, td, ts⟩ := ff; have ff : AtA X9 W8.heap.size D l2 := ⟨ta, tc, td, ts⟩; have t0 := td.cell0; have t1 := td.cell1; have tl := td.lt
    have hC := Same10_eq D l2 _ _ X9 ys ts (by have := HL2.out; omega)
    clear yd ys td ts
    have C_c := Lib.hid c
    have C_ee := Lib.hid ee
    have C_ff := Lib.hid ff
    have C_r := Lib.hid r
    have C_p1 := Lib.hid p1
    have C_p2 := Lib.hid p2
    clear c ee ff r p1 p2
    go_wp2_with fail
    refine hC.mono ?_; rintro e W10 ⟨rfl, hb⟩
    have HBW10 := Lib.hid (HBX9.out.trans (hb.mono HBX9.out.size))
    have c := C_c.out.below hb
    have ee := C_ee.out.below hb
    have ff := C_ff.out.below hb
    have r := C_r.out.below hb
    have p1 := C_p1.out.below hb
    have p2 := C_p2.out.below hb
    clear hC hb C_c C_ee C_ff C_r C_p1 C_p2
    clear y0 y1 yl
    clear t0 t1 tl
    have k1 := p1.convert; have k2 := p2.convert
    obtain ⟨S, hS⟩ : ∃ S, strOfNums L = S := ⟨_, rfl⟩
    rw [hS] at k1 k2
    clear p1 p2 hS
    go_wp2_with fail
    go_ret
    exact ⟨rfl, HBW10.out⟩
end Go.Proofs.YtfdchdnkblmijaaGreatDoor
