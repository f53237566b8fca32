/-
  The walk over CascadeRight. (Printed by wip/gen_l10.py.)
-/
import Derived.Test.YtfdchdnkblmijaaDoorKl
import Derived.Lib.QuietBelow
import Derived.BigQuiet
namespace Go.Proofs.YtfdchdnkblmijaaDoor
open Go.RowKit Go.Sort

theorem mk_err {ins outs : List Int} {day c : Int} (h : Cm.mk ins outs day = .error c) : c = 1 ∨ c = 2 ∨ c = 100 := by
  unfold Cm.mk at h
  split at h
  · split at h
    · split at h
      · cases h; exact .inr (.inl rfl)
      · cases h
    · cases h; exact .inr (.inr rfl)
  · cases h; exact .inl rfl
theorem mem_at {l : List Int} {k : Nat} (h : k < l.length) : l[k]?.getD 0 ∈ l := by rw [List.getElem?_eq_getElem h]; exact List.getElem_mem _

set_option maxRecDepth 100000 in
set_option maxHeartbeats 8000000 in
theorem CascadeRight_any (v1 : Value) (ins : List Int) (v2 : Value) (outs : List Int) (day : Int) (w : World) (hk : KindsAt w) (h1 : Row .i64 w v1 ins) (h2 : Row .i64 w v2 outs) (_kd : (Lit.int .i64 day).wf = true) :
    Calls Tryd.prog 3 #[v1, v2, .int .i64 day] w fun e w' => e = .returned (.bool true) ∧ Below w.heap.size w w' := by
  obtain ⟨a1, c1, rfl⟩ := h1.shape ins.length rfl
  obtain ⟨a2, c2, rfl⟩ := h2.shape outs.length rfl
  obtain ⟨n1, hn1⟩ : ∃ n, ins.length = n := ⟨_, rfl⟩
  obtain ⟨n2, hn2⟩ : ∃ n, outs.length = n := ⟨_, rfl⟩
  rw [hn1] at h1 ⊢
  rw [hn2] at h2 ⊢
  have hL := live10_true w hk
  have H1 := Lib.hid h1; have H2 := Lib.hid h2; have HN1 := Lib.hid hn1; have HN2 := Lib.hid hn2; have HK := Lib.hid hk
  clear h1 h2 hn1 hn2 hk _kd
  go_enter Tryd.func3, Tryd.ntmps3
  go_wp2_with fail
  refine hL.mono ?_; rintro e w1 ⟨rfl, hb1⟩
  have HB1 := Lib.hid hb1
  clear hL
  by_cases hs1 : 30 < n1
  · have q1 : (30 : Int) < (n1 : Int) := by omega
    clear hs1
    go_wp2_with fail
    go_ret
    exact ⟨rfl, HB1.out⟩
  by_cases hs2 : 30 < n2
  · have q1 : ¬ (30 : Int) < (n1 : Int) := by omega
    have q2 : (30 : Int) < (n2 : Int) := by omega
    clear hs1 hs2
    go_wp2_with fail
    go_ret
    exact ⟨rfl, HB1.out⟩
  have q1 : ¬ (30 : Int) < (n1 : Int) := by omega
  have q2 : ¬ (30 : Int) < (n2 : Int) := by omega
  have HS1 := Lib.hid hs1; have HS2 := Lib.hid hs2
  have hC := Make_any (.slice a1 n1 c1) (.slice a2 n2 c2) ins outs day w1 (H1.out.below hb1) (H2.out.below hb1) (by have := HN1.out; omega) (by have := HN2.out; omega)
  obtain ⟨X, hX⟩ : ∃ X, Cm.mk ins outs day = X := ⟨_, rfl⟩
  rw [hX] at hC
  have HX := Lib.hid hX
  clear hs1 hs2 hb1 hX
  go_wp2_with fail
  refine hC.mono ?_; rintro e w2 ⟨hres, hb2⟩
  have hbw2 := HB1.out.trans (hb2.mono HB1.out.size)
  have HBW2 := Lib.hid hbw2
  clear hC hb2 hbw2
  cases X with
  | error cc =>
    obtain rfl : e = _ := hres
    have hcc : ¬ cc = 0 := by rcases mk_err HX.out with rfl | rfl | rfl <;> decide
    go_wp2_with fail
    go_ret
    exact ⟨rfl, HBW2.out.alloc HBW2.out.size _⟩
  | ok p =>
    obtain ⟨d, ls⟩ := p
    obtain ⟨a3, c3, rfl, hs⟩ := hres
    obtain ⟨-, -, -, -, hd, -⟩ := Cm.mk_ok HX.out
    obtain rfl : d = day := hd
    obtain ⟨hg, hp1⟩ := Cm.mk_good HX.out
    obtain ⟨hin, hout⟩ := Cm.mk_has HX.out
    dsimp only at hg hp1 hin hout
    have hat := AtA.new (day := d) hs
    have hb3 := HBW2.out.alloc HBW2.out.size (.cells #[.int .i64 d, .slice a3 ls.length c3] 26)
    obtain ⟨V, hV⟩ : ∃ V, w2.alloc (.cells #[.int .i64 d, .slice a3 ls.length c3] 26) = V := ⟨_, rfl⟩
    obtain ⟨B, hB⟩ : ∃ B, w2.heap.size = B := ⟨_, rfl⟩
    rw [hV] at hat hb3
    rw [hB] at hat
    have r1 := H1.out.below hb3; have r2 := H2.out.below hb3
    have HV := Lib.hid hV; have HB := Lib.hid hB; have HAT := Lib.hid hat; have HB3 := Lib.hid hb3; have HG := Lib.hid hg; have HIN := Lib.hid hin; have HOUT := Lib.hid hout; have R1 := Lib.hid r1; have R2 := Lib.hid r2
    clear hV hB hat hb3 hg hin hout r1 r2 hs
    go_wp2_with fail
    rw [HV.out, HB.out]
    (try go_wp2_with fail)
    go_loopw [10] (fun i wr => ∃ k : Nat, i = .int .i64 k ∧ k ≤ n1 ∧ Below V.heap.size V wr) (fun i _ => n1 - (intOf i).toNat)
    case atStart => exact ⟨0, rfl, Nat.zero_le _, Below.refl _ _⟩
    case round =>
      obtain ⟨k, rfl, hk, hb⟩ := hrel
      have HBr := Lib.hid hb
      have k0 : (0 : Int) ≤ (k : Int) := by omega
      have e1 : IntKind.i64.wrap ((k : Int) + 1) = (k : Int) + 1 := IntWalk.i64_in _ (by have := HS1.out; omega)
      by_cases hlt : k < n1
      · obtain ⟨za, zc, dz, sz⟩ := HAT.out.below hb
        obtain ⟨b0, o0, rfl, hbl, hck⟩ := (R1.out.below hb).cellAt k (by rw [HN1.out]; exact hlt)
        have hh := HIN.out _ (mem_at (l := ins) (k := k) (by rw [HN1.out]; exact hlt))
        obtain ⟨x, hx⟩ : ∃ x, ins[k]?.getD 0 = x := ⟨_, rfl⟩
        rw [hx] at hck hh
        have k1 : (k : Int) < (n1 : Int) := by omega
        have y0 := dz.cell0; have y1 := dz.cell1; have yl := dz.lt
        have q_y0 := cell_regrown y0; have q_y1 := cell_regrown y1; have q_ck := cell_regrown hck
        have p1 : ∀ dd os, Calls Tryd.prog 10 #[.agg #[.int .i64 d, .slice za ls.length zc], .int .i64 x] (grow (redrawn wr dd) os) fun e w'' => e = .returned (.bool true) ∧ ∃ p : Regrown, w'' = grow (redrawn wr p.d) p.os := fun dd os => Calls.regrown_of (by have bw := below_regrown wr dd os; exact (CHas_any d _ ls x _ (sz.below bw) (by have := HG.out.1; omega)).mono (fun _ _ h => ⟨by rw [h.1, hh], h.2⟩))
        clear hb dz sz hx hh
        go_wp2_with fail
        refine wp_region_quiet_below (by kernel_rfl) (by kernel_rfl) ?_
        repeat (go_big_quiet_step (first | with_reducible exact p1 _ _ | fail))
        refine wpQuiet_nil ?_
        intro _ hw'
        obtain ⟨⟨dq, osq⟩, hw''⟩ := hw'
        subst hw''
        go_wp2_with fail
        go_roundw
        case rel => exact ⟨k + 1, by go_num, by omega, HBr.out.trans ((below_regrown wr dq osq).mono HBr.out.size)⟩
        case measure => simp [intOf]; omega
      · obtain rfl : k = n1 := by omega
        clear hb hlt
        go_wp2_with fail
        obtain ⟨wo, rfl⟩ : ∃ wo : World, wo = wr := ⟨_, rfl⟩
        go_loopw [11] (fun i wr => ∃ k : Nat, i = .int .i64 k ∧ k ≤ n2 ∧ Below V.heap.size V wr) (fun i _ => n2 - (intOf i).toNat)
        case atStart => exact ⟨0, rfl, Nat.zero_le _, HBr.out⟩
        case round =>
          obtain ⟨j, rfl, hj, hb⟩ := hrel
          have HBs := Lib.hid hb
          have j0 : (0 : Int) ≤ (j : Int) := by omega
          have e2 : IntKind.i64.wrap ((j : Int) + 1) = (j : Int) + 1 := IntWalk.i64_in _ (by have := HS2.out; omega)
          by_cases hlt : j < n2
          · obtain ⟨za, zc, dz, sz⟩ := HAT.out.below hb
            obtain ⟨b0, o0, rfl, hbl, hck⟩ := (R2.out.below hb).cellAt j (by rw [HN2.out]; exact hlt)
            have hh := HOUT.out _ (mem_at (l := outs) (k := j) (by rw [HN2.out]; exact hlt))
            obtain ⟨x, hx⟩ : ∃ x, outs[j]?.getD 0 = x := ⟨_, rfl⟩
            rw [hx] at hck hh
            have j1 : (j : Int) < (n2 : Int) := by omega
            have y0 := dz.cell0; have y1 := dz.cell1; have yl := dz.lt
            have q_y0 := cell_regrown y0; have q_y1 := cell_regrown y1; have q_ck := cell_regrown hck
            have p1 : ∀ dd os, Calls Tryd.prog 10 #[.agg #[.int .i64 d, .slice za ls.length zc], .int .i64 x] (grow (redrawn wr dd) os) fun e w'' => e = .returned (.bool false) ∧ ∃ p : Regrown, w'' = grow (redrawn wr p.d) p.os := fun dd os => Calls.regrown_of (by have bw := below_regrown wr dd os; exact (CHas_any d _ ls x _ (sz.below bw) (by have := HG.out.1; omega)).mono (fun _ _ h => ⟨by rw [h.1, hh], h.2⟩))
            clear hb dz sz hx hh
            go_wp2_with fail
            refine wp_region_quiet_below (by kernel_rfl) (by kernel_rfl) ?_
            repeat (go_big_quiet_step (first | with_reducible exact p1 _ _ | fail))
            refine wpQuiet_nil ?_
            intro _ hw'
            obtain ⟨⟨dq, osq⟩, hw''⟩ := hw'
            subst hw''
            go_wp2_with fail
            go_roundw
            case rel => exact ⟨j + 1, by go_num, by omega, HBs.out.trans ((below_regrown wr dq osq).mono HBs.out.size)⟩
            case measure => simp [intOf]; omega
          · obtain rfl : j = n2 := by omega
            obtain ⟨za, zc, dz, sz⟩ := HAT.out.below hb
            have y0 := dz.cell0; have y1 := dz.cell1; have yl := dz.lt
            have hCk := CCheck_any d _ ls wr sz (by have := HG.out.1; omega)
            rw [chk_ok HG.out] at hCk
            clear hb hlt sz
            go_wp2_with fail
            refine hCk.mono ?_; rintro e w5 ⟨rfl, hb5⟩
            have hb6 := HB3.out.trans ((HBs.out.trans (hb5.mono HBs.out.size)).mono HB3.out.size)
            have HB6 := Lib.hid hb6
            have d5 := dz.stp hb5
            clear hCk y0 y1 yl
            have y0 := d5.cell0; have y1 := d5.cell1; have yl := d5.lt
            clear hb6 dz hb5 d5
            go_wp2_with fail
            go_ret
            exact ⟨rfl, HB6.out⟩
end Go.Proofs.YtfdchdnkblmijaaDoor
