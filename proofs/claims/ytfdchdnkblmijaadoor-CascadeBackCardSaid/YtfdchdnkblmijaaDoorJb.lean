/-
  The walk over CascadeBack. (Printed by wip/gen_back.py.)
-/
import Derived.Test.YtfdchdnkblmijaaDoorKl
import Derived.Test.YtfdchdnkblmijaaDoorJc
import Derived.Test.YtfdchdnkblmijaaDoorCq
namespace Go.Proofs.YtfdchdnkblmijaaDoor
open Go.RowKit

theorem asE_nz {x : Dm.It} {t : Int} (h : ¬ asE x t = 0) : asE x t ≠ 0 := h
theorem items_err {b : List Int} {m : Nat} {c : Int} (h : Cm.items b m = .error c) : c ≠ 0 := by
  unfold Cm.items at h
  split at h
  · next e he => cases h; exact getAt_fail he
  · split at h
    · split at h
      · split at h
        · cases h; decide
        · cases h
      · next hn => cases h; exact hn
    · cases h; decide
theorem asI_err {x : Dm.It} {c : Int} (h : Cm.asI x = .error c) : c ≠ 0 := by
  unfold Cm.asI at h
  split at h
  · cases h
  · next hn => cases h; exact hn
theorem asO_err {x : Dm.It} {c : Int} (h : Cm.asO x = .error c) : c ≠ 0 := by
  unfold Cm.asO at h
  split at h
  · cases h
  · next hn => cases h; exact hn
theorem levels_nz {f : Nat → Dm.It → Except Int (List Int)} (hf : ∀ i x c, f i x = .error c → c ≠ 0) : ∀ (l : List Dm.It) (i : Nat) (c : Int), Cm.levels f i l = .error c → c ≠ 0
  | [], _, _, h => by unfold Cm.levels at h; cases h
  | x :: l, i, c, h => by
    unfold Cm.levels at h
    split at h
    · next e he => cases h; exact hf _ _ _ he
    · split at h
      · next e he => cases h; exact levels_nz hf l (i + 1) _ he
      · cases h
theorem rest_err {f : Nat → Dm.It → Except Int (List Int)} (hf : ∀ i x c, f i x = .error c → c ≠ 0) {day : Int} {l : List Dm.It} {c : Int} (h : Cm.rest f day l = .error c) : c ≠ 0 := by
  unfold Cm.rest at h
  split at h
  · next e he => cases h; exact levels_nz hf _ _ _ he
  · split at h
    · cases h
    · cases h; decide
theorem cget_err {b : List Int} {c : Int} (h : Cm.get b = .error c) : c ≠ 0 := by
  unfold Cm.get at h
  split at h
  · next e he => cases h; exact items_err he
  · split at h
    · next e he => cases h; exact asI_err he
    · exact rest_err (fun _ _ _ => asO_err) h
theorem putR_err {day : Int} {ls : List Sm.Sv} {c : Int} (h : Cm.putR day ls = .error c) : c ≠ 0 := by
  unfold Cm.putR at h
  split at h
  · split at h
    · cases h
    · cases h; decide
  · next hn => cases h; exact hn
theorem putR_ok {day : Int} {ls : List Sm.Sv} {L : List Int} (h : Cm.putR day ls = .ok L) : Cm.get L = .ok (day, ls) ∧ L.length ≤ 8192 := by
  unfold Cm.putR at h
  split at h
  · next h1 =>
    split at h
    · next h2 =>
      cases h
      exact ⟨Cm.put_get h1 h2, by rw [Dm.bytes_len]; exact h2⟩
    · cases h
  · cases h
theorem get_putR {b : List Int} {day : Int} {ls : List Sm.Sv} (hb : ∀ y ∈ b, byte y) (h : Cm.get b = .ok (day, ls)) : Cm.putR day ls = .ok b ∧ Cm.chk day ls = 0 ∧ ls.length ≤ 16 := by
  obtain ⟨h1, h2, h3⟩ := Cm.get_put hb h
  refine ⟨?_, h1, (Cm.chk_zero.1 h1).1⟩
  unfold Cm.putR
  rw [if_pos h1, if_pos h3, h2]

set_option maxRecDepth 100000 in
set_option maxHeartbeats 8000000 in
theorem CascadeBack_any (day : Int) (vl : Value) (ls : List Sm.Sv) (v : Value) (l : List Int) (w : World) (hk : KindsAt w) (h1 : Svs w vl ls) (h2 : Row .u8 w v l) :
    Calls Tryd.prog 6 #[.agg #[.int .i64 day, vl], v] w fun e w' => e = .returned (.bool true) ∧ Below w.heap.size w w' := by
  obtain ⟨a1, c1, rfl⟩ := h1.shape
  obtain ⟨a2, c2, rfl⟩ := h2.shape l.length rfl
  have hby := h2.all_byte
  obtain ⟨n2, hn2⟩ : ∃ n, l.length = n := ⟨_, rfl⟩
  rw [hn2] at h2 ⊢
  have r := h2
  have H_hk := Lib.hid hk; have HBY := Lib.hid hby; have HN2 := Lib.hid hn2
  have HB0 := Lib.hid (Below.refl w.heap.size w)
  clear h2 hby hn2 hk
  go_enter Tryd.func6, Tryd.ntmps6
  obtain ⟨X1, hX⟩ : ∃ X, (w.alloc (.cells #[.int .i64 day, .slice a1 ls.length c1] 26)) = X := ⟨_, rfl⟩
  have hx : Below w.heap.size w X1 := by rw [← hX]; exact ((Below.refl w.heap.size w).alloc (Nat.le_refl _) _)
  have c : AtA X1 w.heap.size day ls := by rw [← hX]; exact AtA.new h1
  replace r := r.below hx
  have HBX1 := Lib.hid (HB0.out.trans (hx.mono HB0.out.size))
  have HX := Lib.hid hX
  clear hX hx
  clear h1
  have hC := live10_true X1 (H_hk.out.below HBX1.out)
  have C_c := Lib.hid c
  have C_r := Lib.hid r
  clear c r
  go_wp2_with fail
  rw [HX.out]
  (try go_wp2_with fail)
  refine hC.mono ?_; rintro e W2 ⟨rfl, hb⟩
  have HBW2 := Lib.hid (HBX1.out.trans (hb.mono HBX1.out.size))
  have c := C_c.out.below hb
  have r := C_r.out.below hb
  clear hC hb HX C_c C_r
  obtain ⟨ya, yc, yd, ys⟩ := c; have c : AtA W2 w.heap.size day ls := ⟨ya, yc, yd, ys⟩; have y0 := yd.cell0; have y1 := yd.cell1; have yl := yd.lt
  have hC := RFew_any day _ ls W2 ys
  obtain ⟨F, hF⟩ : ∃ F, decide (FewC ls) = F := ⟨_, rfl⟩
  rw [hF] at hC
  have HF := Lib.hid hF
  clear hF yd ys
  have C_c := Lib.hid c
  have C_r := Lib.hid r
  clear c r
  go_wp2_with fail
  refine hC.mono ?_; rintro e W3 ⟨rfl, hb⟩
  have HBW3 := Lib.hid (HBW2.out.trans (hb.mono HBW2.out.size))
  have c := C_c.out.below hb
  have r := C_r.out.below hb
  clear hC hb C_c C_r
  clear y0 y1 yl
  cases F with
  | false =>
    go_wp2_with fail
    go_ret
    exact ⟨rfl, HBW3.out⟩
  | true =>
    have hfew := of_decide_eq_true HF.out
    have HFew := Lib.hid hfew
    clear hfew HF
    by_cases hs : 2000 < n2
    · have q2 : (2000 : Int) < (n2 : Int) := by omega
      clear hs
      go_wp2_with fail
      go_ret
      exact ⟨rfl, HBW3.out⟩
    have q2 : ¬ (2000 : Int) < (n2 : Int) := by omega
    have HS := Lib.hid hs
    clear hs
    obtain ⟨ya, yc, yd, ys⟩ := c; have c : AtA W3 w.heap.size day ls := ⟨ya, yc, yd, ys⟩; have y0 := yd.cell0; have y1 := yd.cell1; have yl := yd.lt
    obtain ⟨P, hP⟩ : ∃ P, Cm.putR day ls = P := ⟨_, rfl⟩
    have HP := Lib.hid hP
    have hC := CPut_any day _ ls W3 (H_hk.out.below HBW3.out) ys (by have := HFew.out.1; omega)
    rw [hP] at hC
    clear hP yd ys
    have C_c := Lib.hid c
    have C_r := Lib.hid r
    clear c r
    go_wp2_with fail
    refine hC.mono ?_; rintro e W4 ⟨hres, hb⟩
    have HBW4 := Lib.hid (HBW3.out.trans (hb.mono HBW3.out.size))
    have c := C_c.out.below hb
    have r := C_r.out.below hb
    clear hC hb C_c C_r
    clear y0 y1 yl
    clear q2
    cases P with
    | error cc =>
      obtain rfl : e = _ := hres
      have hcc : ¬ cc = 0 := putR_err HP.out
      obtain ⟨G, hG⟩ : ∃ G, Cm.get l = G := ⟨_, rfl⟩
      have HG := Lib.hid hG
      have hC := CGet_any _ l W4 (H_hk.out.below HBW4.out) r (by have := HN2.out; have := HS.out; omega)
      rw [hG] at hC
      clear hG
      have C_c := Lib.hid c
      have C_r := Lib.hid r
      clear c r
      go_wp2_with fail
      refine hC.mono ?_; rintro e W5 ⟨hres, hb⟩
      have HBW5 := Lib.hid (HBW4.out.trans (hb.mono HBW4.out.size))
      have c := C_c.out.below hb
      have r := C_r.out.below hb
      clear hC hb C_c C_r
      cases G with
      | error cz =>
        obtain rfl : e = _ := hres
        have hcz : ¬ cz = 0 := cget_err HG.out
        go_wp2_with fail
        go_ret
        exact ⟨rfl, HBW5.out.alloc HBW5.out.size _⟩
      | ok pz =>
        obtain ⟨d2, l2⟩ := pz
        obtain ⟨a6, c6, rfl, hs⟩ := hres
        obtain ⟨z1, z2, z3⟩ := get_putR HBY.out HG.out
        have Z1 := Lib.hid z1; have Z2 := Lib.hid z2; have Z3 := Lib.hid z3
        clear z1 z2 z3
        obtain ⟨X6, hX⟩ : ∃ X, (W5.alloc (.cells #[.int .i64 d2, .slice a6 l2.length c6] 26)) = X := ⟨_, rfl⟩
        have hx : Below W5.heap.size W5 X6 := by rw [← hX]; exact ((Below.refl W5.heap.size W5).alloc (Nat.le_refl _) _)
        have ee : AtA X6 W5.heap.size d2 l2 := by rw [← hX]; exact AtA.new hs
        replace c := c.below hx
        replace r := r.below hx
        replace hs := hs.below hx
        have HBX6 := Lib.hid (HBW5.out.trans (hx.mono HBW5.out.size))
        have HX := Lib.hid hX
        clear hX hx
        have hC := CPut_any d2 (.slice a6 l2.length c6) l2 X6 (H_hk.out.below HBX6.out) hs (by have := Z3.out; omega)
        rw [Z1.out] at hC
        clear hs
        have C_c := Lib.hid c
        have C_ee := Lib.hid ee
        have C_r := Lib.hid r
        clear c ee r
        go_wp2_with fail
        rw [HX.out]
        (try go_wp2_with fail)
        refine hC.mono ?_; rintro e W7 ⟨hres, hb⟩
        have HBW7 := Lib.hid (HBX6.out.trans (hb.mono HBX6.out.size))
        have c := C_c.out.below hb
        have ee := C_ee.out.below hb
        have r := C_r.out.below hb
        clear hC hb HX C_c C_ee C_r
        obtain ⟨a7, c7, rfl, rl⟩ := hres
        have k1 := rl.convert; have k2 := r.convert
        obtain ⟨S, hS⟩ : ∃ S, strOfNums l = S := ⟨_, rfl⟩
        rw [hS] at k1 k2
        rw [HN2.out] at rl k1 ⊢
        clear rl hS
        obtain ⟨ya, yc, yd, ys⟩ := ee; have ee : AtA W7 W5.heap.size d2 l2 := ⟨ya, yc, yd, ys⟩; have y0 := yd.cell0; have y1 := yd.cell1; have yl := yd.lt
        have hC := CCheck_any d2 _ l2 W7 ys (by have := Z3.out; omega)
        rw [Z2.out] at hC
        clear yd ys
        have C_c := Lib.hid c
        have C_ee := Lib.hid ee
        have C_r := Lib.hid r
        clear c ee r
        go_wp2_with fail
        refine hC.mono ?_; rintro e W8 ⟨rfl, hb⟩
        have HBW8 := Lib.hid (HBW7.out.trans (hb.mono HBW7.out.size))
        have c := C_c.out.below hb
        have ee := C_ee.out.below hb
        have r := C_r.out.below hb
        clear hC hb C_c C_ee C_r
        clear y0 y1 yl
        clear k1 k2
        go_wp2_with fail
        go_ret
        exact ⟨rfl, HBW8.out⟩
    | ok L =>
      obtain ⟨a3, c3, rfl, rb⟩ := hres
      obtain ⟨z1, z2⟩ := putR_ok HP.out
      have Z1' := Lib.hid z1; have Z2' := Lib.hid z2
      clear z1 z2
      have hC := CGet_any _ L W4 (H_hk.out.below HBW4.out) rb (by have := Z2'.out; omega)
      rw [Z1'.out] at hC
      clear rb
      have C_c := Lib.hid c
      have C_r := Lib.hid r
      clear c r
      go_wp2_with fail
      refine hC.mono ?_; rintro e W9 ⟨hres, hb⟩
      have HBW9 := Lib.hid (HBW4.out.trans (hb.mono HBW4.out.size))
      have c := C_c.out.below hb
      have r := C_r.out.below hb
      clear hC hb C_c C_r
      obtain ⟨a4, c4, rfl, hs⟩ := hres
      obtain ⟨ya, yc, yd, ys⟩ := c; have c : AtA W9 w.heap.size day ls := ⟨ya, yc, yd, ys⟩; have y0 := yd.cell0; have y1 := yd.cell1; have yl := yd.lt
      obtain ⟨X10, hX⟩ : ∃ X, (W9.alloc (.cells #[.int .i64 day, .slice a4 ls.length c4] 26)) = X := ⟨_, rfl⟩
      have hx : Below W9.heap.size W9 X10 := by rw [← hX]; exact ((Below.refl W9.heap.size W9).alloc (Nat.le_refl _) _)
      replace c := c.below hx
      replace r := r.below hx
      replace hs := hs.below hx
      replace ys := ys.below hx
      have HBX10 := Lib.hid (HBW9.out.trans (hx.mono HBW9.out.size))
      have HX := Lib.hid hX
      clear hX hx
      have hC := CSame_any day day ls ls _ _ X10 ys hs
      rw [decide_eq_true ⟨rfl, rfl⟩] at hC
      clear yd ys hs
      have C_c := Lib.hid c
      have C_r := Lib.hid r
      clear c r
      go_wp2_with fail
      rw [HX.out]
      (try go_wp2_with fail)
      refine hC.mono ?_; rintro e W11 ⟨rfl, hb⟩
      have HBW11 := Lib.hid (HBX10.out.trans (hb.mono HBX10.out.size))
      have c := C_c.out.below hb
      have r := C_r.out.below hb
      clear hC hb HX C_c C_r
      clear y0 y1 yl
      obtain ⟨G, hG⟩ : ∃ G, Cm.get l = G := ⟨_, rfl⟩
      have HG := Lib.hid hG
      have hC := CGet_any _ l W11 (H_hk.out.below HBW11.out) r (by have := HN2.out; have := HS.out; omega)
      rw [hG] at hC
      clear hG
      have C_c := Lib.hid c
      have C_r := Lib.hid r
      clear c r
      go_wp2_with fail
      refine hC.mono ?_; rintro e W12 ⟨hres, hb⟩
      have HBW12 := Lib.hid (HBW11.out.trans (hb.mono HBW11.out.size))
      have c := C_c.out.below hb
      have r := C_r.out.below hb
      clear hC hb C_c C_r
      cases G with
      | error cz =>
        obtain rfl : e = _ := hres
        have hcz : ¬ cz = 0 := cget_err HG.out
        go_wp2_with fail
        go_ret
        exact ⟨rfl, HBW12.out.alloc HBW12.out.size _⟩
      | ok pz =>
        obtain ⟨d2, l2⟩ := pz
        obtain ⟨a6, c6, rfl, hs⟩ := hres
        obtain ⟨z1, z2, z3⟩ := get_putR HBY.out HG.out
        have Z1 := Lib.hid z1; have Z2 := Lib.hid z2; have Z3 := Lib.hid z3
        clear z1 z2 z3
        obtain ⟨X13, hX⟩ : ∃ X, (W12.alloc (.cells #[.int .i64 d2, .slice a6 l2.length c6] 26)) = X := ⟨_, rfl⟩
        have hx : Below W12.heap.size W12 X13 := by rw [← hX]; exact ((Below.refl W12.heap.size W12).alloc (Nat.le_refl _) _)
        have ee : AtA X13 W12.heap.size d2 l2 := by rw [← hX]; exact AtA.new hs
        replace c := c.below hx
        replace r := r.below hx
        replace hs := hs.below hx
        have HBX13 := Lib.hid (HBW12.out.trans (hx.mono HBW12.out.size))
        have HX := Lib.hid hX
        clear hX hx
        have hC := CPut_any d2 (.slice a6 l2.length c6) l2 X13 (H_hk.out.below HBX13.out) hs (by have := Z3.out; omega)
        rw [Z1.out] at hC
        clear hs
        have C_c := Lib.hid c
        have C_ee := Lib.hid ee
        have C_r := Lib.hid r
        clear c ee r
        go_wp2_with fail
        rw [HX.out]
        (try go_wp2_with fail)
        refine hC.mono ?_; rintro e W14 ⟨hres, hb⟩
        have HBW14 := Lib.hid (HBX13.out.trans (hb.mono HBX13.out.size))
        have c := C_c.out.below hb
        have ee := C_ee.out.below hb
        have r := C_r.out.below hb
        clear hC hb HX C_c C_ee C_r
        obtain ⟨a7, c7, rfl, rl⟩ := hres
        have k1 := rl.convert; have k2 := r.convert
        obtain ⟨S, hS⟩ : ∃ S, strOfNums l = S := ⟨_, rfl⟩
        rw [hS] at k1 k2
        rw [HN2.out] at rl k1 ⊢
        clear rl hS
        obtain ⟨ya, yc, yd, ys⟩ := ee; have ee : AtA W14 W12.heap.size d2 l2 := ⟨ya, yc, yd, ys⟩; have y0 := yd.cell0; have y1 := yd.cell1; have yl := yd.lt
        have hC := CCheck_any d2 _ l2 W14 ys (by have := Z3.out; omega)
        rw [Z2.out] at hC
        clear yd ys
        have C_c := Lib.hid c
        have C_ee := Lib.hid ee
        have C_r := Lib.hid r
        clear c ee r
        go_wp2_with fail
        refine hC.mono ?_; rintro e W15 ⟨rfl, hb⟩
        have HBW15 := Lib.hid (HBW14.out.trans (hb.mono HBW14.out.size))
        have c := C_c.out.below hb
        have ee := C_ee.out.below hb
        have r := C_r.out.below hb
        clear hC hb C_c C_ee C_r
        clear y0 y1 yl
        clear k1 k2
        go_wp2_with fail
        go_ret
        exact ⟨rfl, HBW15.out⟩
end Go.Proofs.YtfdchdnkblmijaaDoor
