/-
  The walk over CascadeLeads. (Printed by wip/gen_back.py.)
-/
import Derived.Test.YtfdchdnkblmijaaDoorKl
import Derived.Test.YtfdchdnkblmijaaDoorJc
import Derived.Test.YtfdchdnkblmijaaDoorCq
namespace Go.Proofs.YtfdchdnkblmijaaDoor
open Go.RowKit

theorem deltaR_err {da db : Int} {xs ys : List Sm.Sv} {c : Int} (h : Cm.deltaR da xs db ys = .error c) : c ≠ 0 := by
  unfold Cm.deltaR at h
  split at h
  · split at h
    · split at h
      · cases h
      · cases h; decide
    · next hn => cases h; exact hn
  · next hn => cases h; exact hn
theorem deltaR_ok {da db : Int} {xs ys : List Sm.Sv} {L : List Int} (h : Cm.deltaR da xs db ys = .ok L) : Cm.good da xs ∧ Cm.good db ys ∧ Dm.len (Cm.stepItem da xs db ys) ≤ 8192 ∧ L = Dm.bytes (Cm.stepItem da xs db ys) ∧ L.length ≤ 8192 := by
  unfold Cm.deltaR at h
  split at h
  · next h1 =>
    split at h
    · next h2 =>
      split at h
      · next h3 =>
        cases h
        exact ⟨Cm.chk_zero.1 h1, Cm.chk_zero.1 h2, h3, rfl, by rw [Dm.bytes_len]; exact h3⟩
      · cases h
    · cases h
  · cases h

set_option maxRecDepth 100000 in
set_option maxHeartbeats 8000000 in
theorem CascadeLeads_any (da : Int) (va : Value) (xs : List Sm.Sv) (db : Int) (vb : Value) (ys : List Sm.Sv) (dc : Int) (vc : Value) (zs : List Sm.Sv) (w : World) (hk : KindsAt w) (h1 : Svs w va xs) (h2 : Svs w vb ys) (h3 : Svs w vc zs) :
    Calls Tryd.prog 7 #[.agg #[.int .i64 da, va], .agg #[.int .i64 db, vb], .agg #[.int .i64 dc, vc]] w fun e w' => e = .returned (.bool true) ∧ Below w.heap.size w w' := by
  obtain ⟨a1, c1, rfl⟩ := h1.shape
  obtain ⟨a2, c2, rfl⟩ := h2.shape
  obtain ⟨a3, c3, rfl⟩ := h3.shape
  have H_hk := Lib.hid hk
  have HB0 := Lib.hid (Below.refl w.heap.size w)
  clear hk
  go_enter Tryd.func7, Tryd.ntmps7
  obtain ⟨X1, hX⟩ : ∃ X, (((w.alloc (.cells #[.int .i64 da, .slice a1 xs.length c1] 26)).alloc (.cells #[.int .i64 db, .slice a2 ys.length c2] 26)).alloc (.cells #[.int .i64 dc, .slice a3 zs.length c3] 26)) = X := ⟨_, rfl⟩
  have hx : Below w.heap.size w X1 := by rw [← hX]; exact ((((Below.refl w.heap.size w).alloc (Nat.le_refl _) _).alloc (by simp) _).alloc (by simp; omega) _)
  have A : AtA X1 w.heap.size da xs := by rw [← hX]; exact ((AtA.new h1).alloc _).alloc _
  have B : AtA X1 (w.heap.size + 1) db ys := by rw [← hX]; exact (by have := (AtA.new (day := db) (h2.alloc (.cells #[.int .i64 da, .slice a1 xs.length c1] 26))).alloc (.cells #[.int .i64 dc, .slice a3 zs.length c3] 26); rw [World.size_alloc] at this; exact this)
  have D : AtA X1 (w.heap.size + 1 + 1) dc zs := by rw [← hX]; exact (by have := AtA.new (day := dc) ((h3.alloc (.cells #[.int .i64 da, .slice a1 xs.length c1] 26)).alloc (.cells #[.int .i64 db, .slice a2 ys.length c2] 26)); rw [World.size_alloc, World.size_alloc] at this; exact this)
  have HBX1 := Lib.hid (HB0.out.trans (hx.mono HB0.out.size))
  have HX := Lib.hid hX
  clear hX hx
  clear h1 h2 h3
  have hC := live10_true X1 (H_hk.out.below HBX1.out)
  have C_A := Lib.hid A
  have C_B := Lib.hid B
  have C_D := Lib.hid D
  clear A B D
  go_wp2_with fail
  rw [HX.out]
  (try go_wp2_with fail)
  refine hC.mono ?_; rintro e W2 ⟨rfl, hb⟩
  have HBW2 := Lib.hid (HBX1.out.trans (hb.mono HBX1.out.size))
  have A := C_A.out.below hb
  have B := C_B.out.below hb
  have D := C_D.out.below hb
  clear hC hb HX C_A C_B C_D
  obtain ⟨ya, yc, yd, yv⟩ := A; have A : AtA W2 w.heap.size da xs := ⟨ya, yc, yd, yv⟩; have y0 := yd.cell0; have y1 := yd.cell1; have yl := yd.lt
  have hC := RFew_any da _ xs W2 yv
  obtain ⟨F1, hF1⟩ : ∃ F, decide (FewC xs) = F := ⟨_, rfl⟩
  rw [hF1] at hC
  have HF1 := Lib.hid hF1
  clear hF1 yd yv
  have C_A := Lib.hid A
  have C_B := Lib.hid B
  have C_D := Lib.hid D
  clear A B D
  go_wp2_with fail
  refine hC.mono ?_; rintro e W3 ⟨rfl, hb⟩
  have HBW3 := Lib.hid (HBW2.out.trans (hb.mono HBW2.out.size))
  have A := C_A.out.below hb
  have B := C_B.out.below hb
  have D := C_D.out.below hb
  clear hC hb C_A C_B C_D
  clear y0 y1 yl
  cases F1 with
  | false =>
    go_wp2_with fail
    go_ret
    exact ⟨rfl, HBW3.out⟩
  | true =>
    have fF1 := of_decide_eq_true HF1.out; have F_F1 := Lib.hid fF1; clear fF1 HF1
    obtain ⟨ya, yc, yd, yv⟩ := B; have B : AtA W3 (w.heap.size + 1) db ys := ⟨ya, yc, yd, yv⟩; have y0 := yd.cell0; have y1 := yd.cell1; have yl := yd.lt
    have hC := RFew_any db _ ys W3 yv
    obtain ⟨F2, hF2⟩ : ∃ F, decide (FewC ys) = F := ⟨_, rfl⟩
    rw [hF2] at hC
    have HF2 := Lib.hid hF2
    clear hF2 yd yv
    have C_A := Lib.hid A
    have C_B := Lib.hid B
    have C_D := Lib.hid D
    clear A B D
    go_wp2_with fail
    refine hC.mono ?_; rintro e W4 ⟨rfl, hb⟩
    have HBW4 := Lib.hid (HBW3.out.trans (hb.mono HBW3.out.size))
    have A := C_A.out.below hb
    have B := C_B.out.below hb
    have D := C_D.out.below hb
    clear hC hb C_A C_B C_D
    clear y0 y1 yl
    cases F2 with
    | false =>
      go_wp2_with fail
      go_ret
      exact ⟨rfl, HBW4.out⟩
    | true =>
      have fF2 := of_decide_eq_true HF2.out; have F_F2 := Lib.hid fF2; clear fF2 HF2
      obtain ⟨ya, yc, yd, yv⟩ := D; have D : AtA W4 (w.heap.size + 1 + 1) dc zs := ⟨ya, yc, yd, yv⟩; have y0 := yd.cell0; have y1 := yd.cell1; have yl := yd.lt
      have hC := RFew_any dc _ zs W4 yv
      obtain ⟨F3, hF3⟩ : ∃ F, decide (FewC zs) = F := ⟨_, rfl⟩
      rw [hF3] at hC
      have HF3 := Lib.hid hF3
      clear hF3 yd yv
      have C_A := Lib.hid A
      have C_B := Lib.hid B
      have C_D := Lib.hid D
      clear A B D
      go_wp2_with fail
      refine hC.mono ?_; rintro e W5 ⟨rfl, hb⟩
      have HBW5 := Lib.hid (HBW4.out.trans (hb.mono HBW4.out.size))
      have A := C_A.out.below hb
      have B := C_B.out.below hb
      have D := C_D.out.below hb
      clear hC hb C_A C_B C_D
      clear y0 y1 yl
      cases F3 with
      | false =>
        go_wp2_with fail
        go_ret
        exact ⟨rfl, HBW5.out⟩
      | true =>
        have fF3 := of_decide_eq_true HF3.out; have F_F3 := Lib.hid fF3; clear fF3 HF3
        obtain ⟨ya, yc, yd, yv⟩ := A; have A : AtA W5 w.heap.size da xs := ⟨ya, yc, yd, yv⟩; have y0 := yd.cell0; have y1 := yd.cell1; have yl := yd.lt
        obtain ⟨ta, tc, td, tv⟩ := B; have B : AtA W5 (w.heap.size + 1) db ys := ⟨ta, tc, td, tv⟩; have t0 := td.cell0; have t1 := td.cell1; have tl := td.lt
        obtain ⟨P, hP⟩ : ∃ P, Cm.deltaR da xs db ys = P := ⟨_, rfl⟩
        have HP := Lib.hid hP
        have hC := CDelta_any da db _ _ xs ys W5 (H_hk.out.below HBW5.out) yv tv (by have := F_F1.out.1; omega) (by have := F_F2.out.1; omega)
        rw [hP] at hC
        clear hP yd yv td tv
        have C_A := Lib.hid A
        have C_B := Lib.hid B
        have C_D := Lib.hid D
        clear A B D
        go_wp2_with fail
        refine hC.mono ?_; rintro e W6 ⟨hres, hb⟩
        have HBW6 := Lib.hid (HBW5.out.trans (hb.mono HBW5.out.size))
        have A := C_A.out.below hb
        have B := C_B.out.below hb
        have D := C_D.out.below hb
        clear hC hb C_A C_B C_D
        clear y0 y1 yl
        clear t0 t1 tl
        cases P with
        | error cc =>
          obtain rfl : e = _ := hres
          have hcc : ¬ cc = 0 := deltaR_err HP.out
          go_wp2_with fail
          go_ret
          exact ⟨rfl, HBW6.out⟩
        | ok L =>
          obtain ⟨a5, c5, rfl, rb⟩ := hres
          obtain ⟨gA, gB, hfit, hL, hLl⟩ := deltaR_ok HP.out
          have hap := (Cm.step_apply (dc := db) (cs := ys) gA gB gB hfit).1
          rw [← hL] at hap
          have HAp := Lib.hid hap; have GA := Lib.hid gA; have GB := Lib.hid gB; have HFit := Lib.hid hfit; have HL := Lib.hid hL; have HLl := Lib.hid hLl
          clear hap gA gB hfit hL hLl
          obtain ⟨ya, yc, yd, yv⟩ := A; have A : AtA W6 w.heap.size da xs := ⟨ya, yc, yd, yv⟩; have y0 := yd.cell0; have y1 := yd.cell1; have yl := yd.lt
          have hC := CApply_any da _ _ xs L W6 (H_hk.out.below HBW6.out) yv rb (by have := F_F1.out.1; omega) (by have := HLl.out; omega)
          rw [HAp.out] at hC
          clear yd yv
          have C_A := Lib.hid A
          have C_B := Lib.hid B
          have C_D := Lib.hid D
          have C_rb := Lib.hid rb
          clear A B D rb
          go_wp2_with fail
          refine hC.mono ?_; rintro e W7 ⟨hres, hb⟩
          have HBW7 := Lib.hid (HBW6.out.trans (hb.mono HBW6.out.size))
          have A := C_A.out.below hb
          have B := C_B.out.below hb
          have D := C_D.out.below hb
          have rb := C_rb.out.below hb
          clear hC hb C_A C_B C_D C_rb
          clear y0 y1 yl
          obtain ⟨a6, c6, rfl, hs⟩ := hres
          obtain ⟨ta, tc, td, tv⟩ := B; have B : AtA W7 (w.heap.size + 1) db ys := ⟨ta, tc, td, tv⟩; have t0 := td.cell0; have t1 := td.cell1; have tl := td.lt
          obtain ⟨X8, hX⟩ : ∃ X, (W7.alloc (.cells #[.int .i64 db, .slice a6 ys.length c6] 26)) = X := ⟨_, rfl⟩
          have hx : Below W7.heap.size W7 X8 := by rw [← hX]; exact ((Below.refl W7.heap.size W7).alloc (Nat.le_refl _) _)
          have x : AtA X8 W7.heap.size db ys := by rw [← hX]; exact AtA.new hs
          replace A := A.below hx
          replace B := B.below hx
          replace D := D.below hx
          replace rb := rb.below hx
          replace hs := hs.below hx
          replace tv := tv.below hx
          have HBX8 := Lib.hid (HBW7.out.trans (hx.mono HBW7.out.size))
          have HX := Lib.hid hX
          clear hX hx
          have hC := CSame_any db db ys ys _ _ X8 hs tv
          rw [decide_eq_true ⟨rfl, rfl⟩] at hC
          clear hs td tv
          have C_A := Lib.hid A
          have C_B := Lib.hid B
          have C_D := Lib.hid D
          have C_x := Lib.hid x
          have C_rb := Lib.hid rb
          clear A B D x rb
          go_wp2_with fail
          rw [HX.out]
          (try go_wp2_with fail)
          refine hC.mono ?_; rintro e W9 ⟨rfl, hb⟩
          have HBW9 := Lib.hid (HBX8.out.trans (hb.mono HBX8.out.size))
          have A := C_A.out.below hb
          have B := C_B.out.below hb
          have D := C_D.out.below hb
          have x := C_x.out.below hb
          have rb := C_rb.out.below hb
          clear hC hb HX C_A C_B C_D C_x C_rb
          clear t0 t1 tl
          obtain ⟨Q, hQ⟩ : ∃ Q, Cm.deltaR db ys dc zs = Q := ⟨_, rfl⟩
          have HQ := Lib.hid hQ
          obtain ⟨ya, yc, yd, yv⟩ := x; have x : AtA W9 W7.heap.size db ys := ⟨ya, yc, yd, yv⟩; have y0 := yd.cell0; have y1 := yd.cell1; have yl := yd.lt
          obtain ⟨ta, tc, td, tv⟩ := D; have D : AtA W9 (w.heap.size + 1 + 1) dc zs := ⟨ta, tc, td, tv⟩; have t0 := td.cell0; have t1 := td.cell1; have tl := td.lt
          have hC := CDelta_any db dc _ _ ys zs W9 (H_hk.out.below HBW9.out) yv tv (by have := F_F2.out.1; omega) (by have := F_F3.out.1; omega)
          rw [hQ] at hC
          clear hQ yd yv td tv
          have C_A := Lib.hid A
          have C_B := Lib.hid B
          have C_D := Lib.hid D
          have C_x := Lib.hid x
          have C_rb := Lib.hid rb
          clear A B D x rb
          go_wp2_with fail
          refine hC.mono ?_; rintro e W10 ⟨hres, hb⟩
          have HBW10 := Lib.hid (HBW9.out.trans (hb.mono HBW9.out.size))
          have A := C_A.out.below hb
          have B := C_B.out.below hb
          have D := C_D.out.below hb
          have x := C_x.out.below hb
          have rb := C_rb.out.below hb
          clear hC hb C_A C_B C_D C_x C_rb
          clear y0 y1 yl
          clear t0 t1 tl
          cases Q with
          | error cz =>
            obtain rfl : e = _ := hres
            have hcz : ¬ cz = 0 := deltaR_err HQ.out
            obtain ⟨ya, yc, yd, yv⟩ := B; have B : AtA W10 (w.heap.size + 1) db ys := ⟨ya, yc, yd, yv⟩; have y0 := yd.cell0; have y1 := yd.cell1; have yl := yd.lt
            obtain ⟨ta, tc, td, tv⟩ := D; have D : AtA W10 (w.heap.size + 1 + 1) dc zs := ⟨ta, tc, td, tv⟩; have t0 := td.cell0; have t1 := td.cell1; have tl := td.lt
            have hC := CDelta_any db dc _ _ ys zs W10 (H_hk.out.below HBW10.out) yv tv (by have := F_F2.out.1; omega) (by have := F_F3.out.1; omega)
            rw [HQ.out] at hC
            clear yd yv td tv
            have C_A := Lib.hid A
            have C_B := Lib.hid B
            have C_D := Lib.hid D
            have C_x := Lib.hid x
            have C_rb := Lib.hid rb
            clear A B D x rb
            go_wp2_with fail
            refine hC.mono ?_; rintro e W11 ⟨hres, hb⟩
            have HBW11 := Lib.hid (HBW10.out.trans (hb.mono HBW10.out.size))
            have A := C_A.out.below hb
            have B := C_B.out.below hb
            have D := C_D.out.below hb
            have x := C_x.out.below hb
            have rb := C_rb.out.below hb
            clear hC hb C_A C_B C_D C_x C_rb
            clear y0 y1 yl
            clear t0 t1 tl
            obtain rfl : e = _ := hres
            obtain ⟨U, hU⟩ : ∃ U, Cm.apply db ys [] = U := ⟨_, rfl⟩
            obtain ⟨ya, yc, yd, yv⟩ := x; have x : AtA W11 W7.heap.size db ys := ⟨ya, yc, yd, yv⟩; have y0 := yd.cell0; have y1 := yd.cell1; have yl := yd.lt
            have hC := CApply_any db _ (.slice none 0 0) ys [] W11 (H_hk.out.below HBW11.out) yv (Row.nil _ _) (by have := F_F2.out.1; omega) (by simp)
            rw [hU] at hC
            clear hU yd yv
            have C_A := Lib.hid A
            have C_B := Lib.hid B
            have C_D := Lib.hid D
            have C_x := Lib.hid x
            have C_rb := Lib.hid rb
            clear A B D x rb
            go_wp2_with fail
            refine hC.mono ?_; rintro e W12 ⟨hres, hb⟩
            have HBW12 := Lib.hid (HBW11.out.trans (hb.mono HBW11.out.size))
            have A := C_A.out.below hb
            have B := C_B.out.below hb
            have D := C_D.out.below hb
            have x := C_x.out.below hb
            have rb := C_rb.out.below hb
            clear hC hb C_A C_B C_D C_x C_rb
            clear y0 y1 yl
            have hsh : ∃ d9 a9 n9 c9 z9, e = .returned (.tuple #[.agg #[.int .i64 d9, .slice a9 n9 c9], .int .i64 z9]) := by
              revert hres
              cases U with
              | error cu => intro hres; exact ⟨_, _, _, _, _, hres⟩
              | ok pu => obtain ⟨du, lu⟩ := pu; intro hres; obtain ⟨au, ku, he, -⟩ := hres; exact ⟨_, _, _, _, _, he⟩
            obtain ⟨d9, a9, n9, c9, z9, rfl⟩ := hsh
            clear hres
            go_wp2_with fail
            go_ret
            exact ⟨rfl, HBW12.out.alloc HBW12.out.size _⟩
          | ok M =>
            obtain ⟨a7, c7, rfl, rm⟩ := hres
            obtain ⟨-, gC, hfit2, hM, hMl⟩ := deltaR_ok HQ.out
            have hap2 := (Cm.step_apply (dc := dc) (cs := zs) GB.out gC gC hfit2).1
            rw [← hM] at hap2
            have hap3 := (Cm.step_apply (dc := dc) (cs := zs) GA.out GB.out gC HFit.out).2
            rw [← HL.out] at hap3
            have HAp2 := Lib.hid hap2; have HAp3 := Lib.hid hap3; have GC := Lib.hid gC; have HMl := Lib.hid hMl
            clear hap2 hap3 gC hfit2 hM hMl
            obtain ⟨ya, yc, yd, yv⟩ := B; have B : AtA W10 (w.heap.size + 1) db ys := ⟨ya, yc, yd, yv⟩; have y0 := yd.cell0; have y1 := yd.cell1; have yl := yd.lt
            obtain ⟨ta, tc, td, tv⟩ := D; have D : AtA W10 (w.heap.size + 1 + 1) dc zs := ⟨ta, tc, td, tv⟩; have t0 := td.cell0; have t1 := td.cell1; have tl := td.lt
            have hC := CDelta_any db dc _ _ ys zs W10 (H_hk.out.below HBW10.out) yv tv (by have := F_F2.out.1; omega) (by have := F_F3.out.1; omega)
            rw [HQ.out] at hC
            clear yd yv td tv
            have C_A := Lib.hid A
            have C_B := Lib.hid B
            have C_D := Lib.hid D
            have C_x := Lib.hid x
            have C_rb := Lib.hid rb
            have C_rm := Lib.hid rm
            clear A B D x rb rm
            go_wp2_with fail
            refine hC.mono ?_; rintro e W13 ⟨hres, hb⟩
            have HBW13 := Lib.hid (HBW10.out.trans (hb.mono HBW10.out.size))
            have A := C_A.out.below hb
            have B := C_B.out.below hb
            have D := C_D.out.below hb
            have x := C_x.out.below hb
            have rb := C_rb.out.below hb
            have rm := C_rm.out.below hb
            clear hC hb C_A C_B C_D C_x C_rb C_rm
            clear y0 y1 yl
            clear t0 t1 tl
            obtain ⟨a8, c8, rfl, rn⟩ := hres
            obtain ⟨ya, yc, yd, yv⟩ := x; have x : AtA W13 W7.heap.size db ys := ⟨ya, yc, yd, yv⟩; have y0 := yd.cell0; have y1 := yd.cell1; have yl := yd.lt
            have hC := CApply_any db _ _ ys M W13 (H_hk.out.below HBW13.out) yv rn (by have := F_F2.out.1; omega) (by have := HMl.out; omega)
            rw [HAp2.out] at hC
            clear yd yv
            have C_A := Lib.hid A
            have C_B := Lib.hid B
            have C_D := Lib.hid D
            have C_x := Lib.hid x
            have C_rb := Lib.hid rb
            have C_rm := Lib.hid rm
            have C_rn := Lib.hid rn
            clear A B D x rb rm rn
            go_wp2_with fail
            refine hC.mono ?_; rintro e W14 ⟨hres, hb⟩
            have HBW14 := Lib.hid (HBW13.out.trans (hb.mono HBW13.out.size))
            have A := C_A.out.below hb
            have B := C_B.out.below hb
            have D := C_D.out.below hb
            have x := C_x.out.below hb
            have rb := C_rb.out.below hb
            have rm := C_rm.out.below hb
            have rn := C_rn.out.below hb
            clear hC hb C_A C_B C_D C_x C_rb C_rm C_rn
            clear y0 y1 yl
            obtain ⟨a9, c9, rfl, hs⟩ := hres
            obtain ⟨ta, tc, td, tv⟩ := D; have D : AtA W14 (w.heap.size + 1 + 1) dc zs := ⟨ta, tc, td, tv⟩; have t0 := td.cell0; have t1 := td.cell1; have tl := td.lt
            obtain ⟨X15, hX⟩ : ∃ X, (W14.alloc (.cells #[.int .i64 dc, .slice a9 zs.length c9] 26)) = X := ⟨_, rfl⟩
            have hx : Below W14.heap.size W14 X15 := by rw [← hX]; exact ((Below.refl W14.heap.size W14).alloc (Nat.le_refl _) _)
            have y : AtA X15 W14.heap.size dc zs := by rw [← hX]; exact AtA.new hs
            replace A := A.below hx
            replace B := B.below hx
            replace D := D.below hx
            replace x := x.below hx
            replace rb := rb.below hx
            replace rm := rm.below hx
            replace rn := rn.below hx
            replace tv := tv.below hx
            have HBX15 := Lib.hid (HBW14.out.trans (hx.mono HBW14.out.size))
            have HX := Lib.hid hX
            clear hX hx
            obtain ⟨V, hV⟩ : ∃ V, Cm.apply dc zs L = V := ⟨_, rfl⟩
            have HV := Lib.hid hV
            have hC := CApply_any dc _ _ zs L X15 (H_hk.out.below HBX15.out) tv rb (by have := F_F3.out.1; omega) (by have := HLl.out; omega)
            rw [hV] at hC
            clear hV td tv hs
            have C_A := Lib.hid A
            have C_B := Lib.hid B
            have C_D := Lib.hid D
            have C_x := Lib.hid x
            have C_y := Lib.hid y
            have C_rb := Lib.hid rb
            have C_rm := Lib.hid rm
            have C_rn := Lib.hid rn
            clear A B D x y rb rm rn
            go_wp2_with fail
            rw [HX.out]
            (try go_wp2_with fail)
            refine hC.mono ?_; rintro e W16 ⟨hres, hb⟩
            have HBW16 := Lib.hid (HBX15.out.trans (hb.mono HBX15.out.size))
            have A := C_A.out.below hb
            have B := C_B.out.below hb
            have D := C_D.out.below hb
            have x := C_x.out.below hb
            have y := C_y.out.below hb
            have rb := C_rb.out.below hb
            have rm := C_rm.out.below hb
            have rn := C_rn.out.below hb
            clear hC hb HX C_A C_B C_D C_x C_y C_rb C_rm C_rn
            clear t0 t1 tl
            have hsh : ∃ d9 a9 n9 c9 z9, e = .returned (.tuple #[.agg #[.int .i64 d9, .slice a9 n9 c9], .int .i64 z9]) ∧ (dc ≠ da → z9 = 1) := by
              have h3 := HAp3.out
              rw [HV.out] at h3
              revert hres
              cases V with
              | error cu => intro hres; exact ⟨_, _, _, _, _, hres, fun h => by have := h3 h; injection this⟩
              | ok pu => obtain ⟨du, lu⟩ := pu; intro hres; obtain ⟨au, ku, he, -⟩ := hres; exact ⟨_, _, _, _, _, he, fun h => by have := h3 h; cases this⟩
            obtain ⟨d9, a10, n9, c10, z9, rfl, hz9⟩ := hsh
            have HZ9 := Lib.hid hz9
            clear hres hz9
            obtain ⟨qa, qc, qd, qv⟩ := y; have y : AtA W16 W14.heap.size dc zs := ⟨qa, qc, qd, qv⟩; have q0 := qd.cell0; have q1 := qd.cell1; have ql := qd.lt
            obtain ⟨ta, tc, td, tv⟩ := D; have D : AtA W16 (w.heap.size + 1 + 1) dc zs := ⟨ta, tc, td, tv⟩; have t0 := td.cell0; have t1 := td.cell1; have tl := td.lt
            have k1 := (rm.alloc (.cells #[.int .i64 d9, .slice a10 n9 c10] 26)).convert; have k2 := (rn.alloc (.cells #[.int .i64 d9, .slice a10 n9 c10] 26)).convert
            obtain ⟨S, hS⟩ : ∃ S, strOfNums M = S := ⟨_, rfl⟩
            rw [hS] at k1 k2
            clear hS
            obtain ⟨X17, hX⟩ : ∃ X, (W16.alloc (.cells #[.int .i64 d9, .slice a10 n9 c10] 26)) = X := ⟨_, rfl⟩
            have hx : Below W16.heap.size W16 X17 := by rw [← hX]; exact ((Below.refl W16.heap.size W16).alloc (Nat.le_refl _) _)
            replace A := A.below hx
            replace B := B.below hx
            replace D := D.below hx
            replace x := x.below hx
            replace y := y.below hx
            replace rb := rb.below hx
            replace rm := rm.below hx
            replace rn := rn.below hx
            replace qv := qv.below hx
            replace tv := tv.below hx
            have HBX17 := Lib.hid (HBW16.out.trans (hx.mono HBW16.out.size))
            have HX := Lib.hid hX
            clear hX hx
            have hC := CSame_any dc dc zs zs _ _ X17 qv tv
            rw [decide_eq_true ⟨rfl, rfl⟩] at hC
            clear qd qv td tv
            have C_A := Lib.hid A
            have C_B := Lib.hid B
            have C_D := Lib.hid D
            have C_x := Lib.hid x
            have C_y := Lib.hid y
            have C_rb := Lib.hid rb
            have C_rm := Lib.hid rm
            have C_rn := Lib.hid rn
            clear A B D x y rb rm rn
            go_wp2_with fail
            rw [HX.out]
            (try go_wp2_with fail)
            refine hC.mono ?_; rintro e W18 ⟨rfl, hb⟩
            have HBW18 := Lib.hid (HBX17.out.trans (hb.mono HBX17.out.size))
            have A := C_A.out.below hb
            have B := C_B.out.below hb
            have D := C_D.out.below hb
            have x := C_x.out.below hb
            have y := C_y.out.below hb
            have rb := C_rb.out.below hb
            have rm := C_rm.out.below hb
            have rn := C_rn.out.below hb
            clear hC hb HX C_A C_B C_D C_x C_y C_rb C_rm C_rn
            clear q0 q1 ql
            clear t0 t1 tl
            obtain ⟨ya, yc, yd, yv⟩ := A; have A : AtA W18 w.heap.size da xs := ⟨ya, yc, yd, yv⟩; have y0 := yd.cell0; have y1 := yd.cell1; have yl := yd.lt
            obtain ⟨ta, tc, td, tv⟩ := D; have D : AtA W18 (w.heap.size + 1 + 1) dc zs := ⟨ta, tc, td, tv⟩; have t0 := td.cell0; have t1 := td.cell1; have tl := td.lt
            by_cases hd : dc = da
            · subst hd
              go_wp2_with fail
              go_ret
              exact ⟨rfl, HBW18.out⟩
            · obtain rfl := HZ9.out hd
              go_wp2_with fail
              go_ret
              exact ⟨rfl, HBW18.out⟩
end Go.Proofs.YtfdchdnkblmijaaDoor
