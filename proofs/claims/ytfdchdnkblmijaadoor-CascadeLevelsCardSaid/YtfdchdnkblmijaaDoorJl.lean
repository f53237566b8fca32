/-
  The walk over CascadeLevels. (Printed by wip/gen_l10.py.)
-/
import Derived.Test.YtfdchdnkblmijaaDoorJr
import Derived.Lib.QuietBelow
import Derived.BigQuiet
namespace Go.Proofs.YtfdchdnkblmijaaDoor
open Go.RowKit Go.Sort

theorem mk_levels {ins outs : List Int} {day : Int} {ls : List Sm.Sv} (h : Cm.mk ins outs day = .ok (day, ls)) :
    (∀ x ∈ ins, Sm.has (ls[0]?.getD Cm.nil) x = true) ∧ (1 < ls.length ↔ outs.filter (Sm.has (ls[0]?.getD Cm.nil)) ≠ []) ∧
      (∀ x ∈ outs.filter (Sm.has (ls[0]?.getD Cm.nil)), Sm.has (ls[1]?.getD Cm.nil) x = true) ∧ (∀ n, Sm.has (ls[0]?.getD Cm.nil) n = false → Cm.has day ls n = false) := by
  obtain ⟨h1, h2, h3, -, -, h6⟩ := Cm.mk_ok h
  dsimp only at h6
  have hd1 := h3.1; have hd2 := h3.2
  have l1 := h1.2; have l2 := h2.2
  obtain ⟨e0, hc⟩ := Cm.build_head h6
  have hyk := Cm.lv_ok day 0 ins ⟨by omega, by omega⟩ (by omega) h1.1.1
  rw [e0]
  refine ⟨fun x hx => Sm.has_of _ ins x hyk hx, ?_, ?_, fun n hn => ?_⟩
  · rcases hc with ⟨hf, e⟩ | ⟨hf, l, hb, e⟩
    · rw [e]; exact ⟨fun h => by simp at h, fun h => absurd hf h⟩
    · obtain ⟨-, hl⟩ := Cm.build_head hb
      have hpos : 1 ≤ l.length := by
        rcases hl with ⟨-, e2⟩ | ⟨-, l3, -, e2⟩ <;> rw [e2] <;> simp
      rw [e]
      exact ⟨fun _ => hf, fun _ => by simp; omega⟩
  · intro x hx
    rcases hc with ⟨hf, e⟩ | ⟨hf, l, hb, e⟩
    · rw [hf] at hx; cases hx
    · obtain ⟨e1, -⟩ := Cm.build_head hb
      have he : ls[1]?.getD Cm.nil = l[0]?.getD Cm.nil := by rw [e]; rfl
      rw [he, e1]
      exact Sm.has_of _ _ x (Cm.lv_ok day (0 + 1) _ ⟨by omega, by omega⟩ (Nat.le_trans (Cm.filter_len _ _) (by omega)) (Cm.filter_right h2.1.1)) hx
  · have hidx : Cm.idx ls n = 0 := by
      rcases hc with ⟨hf, e⟩ | ⟨hf, l, hb, e⟩ <;> rw [e] <;> exact Cm.idx_cons_no _ _ _ hn
    unfold Cm.has
    rw [hidx]
    simp
/-- A level's four values. -/
theorem Svs.level {W : World} {a : Option Addr} {n c : Nat} {ls : List Sm.Sv} (h : Svs W (.slice a n c) ls) (i : Nat) (hi : i < ls.length) : ∃ b o, a = some ⟨b, o, none⟩ ∧ b < W.heap.size ∧ ∃ vb, Row .u8 W vb (ls[i]?.getD Cm.nil).b ∧
    W.cell? ⟨b, o + i * 4, none⟩ = some (.int .i64 (ls[i]?.getD Cm.nil).bits) ∧ W.cell? ⟨b, o + i * 4 + 1, none⟩ = some (.int .i64 (ls[i]?.getD Cm.nil).hashes) ∧ W.cell? ⟨b, o + i * 4 + 2, none⟩ = some (.int .i64 (ls[i]?.getD Cm.nil).salt) ∧ W.cell? ⟨b, o + i * 4 + 3, none⟩ = some vb := by
  obtain ⟨_, _, e', _, _, _, h5⟩ := h
  cases e'
  obtain ⟨b, o, e, hlt, hc⟩ := h5 (by rintro rfl; simp at hi)
  obtain ⟨vb, r, k⟩ := hc i hi
  exact ⟨b, o, e, hlt, vb, r, k⟩

set_option maxRecDepth 100000 in
set_option maxHeartbeats 8000000 in
theorem CascadeLevels_any (v1 : Value) (ins : List Int) (v2 : Value) (outs : List Int) (day q : Int) (w : World) (hk : KindsAt w) (h1 : Row .i64 w v1 ins) (h2 : Row .i64 w v2 outs) (_kd : (Lit.int .i64 day).wf = true) (_kq : (Lit.int .i64 q).wf = true) :
    Calls Tryd.prog 5 #[v1, v2, .int .i64 day, .int .i64 q] w fun e w' => e = .returned (.bool true) ∧ Below w.heap.size w w' := by
  obtain ⟨a1, c1, rfl⟩ := h1.shape ins.length rfl
  obtain ⟨a2, c2, rfl⟩ := h2.shape outs.length rfl
  obtain ⟨n1, hn1⟩ : ∃ n, ins.length = n := ⟨_, rfl⟩
  obtain ⟨n2, hn2⟩ : ∃ n, outs.length = n := ⟨_, rfl⟩
  rw [hn1] at h1 ⊢
  rw [hn2] at h2 ⊢
  have hL := live10_true w hk
  have H1 := Lib.hid h1; have H2 := Lib.hid h2; have HN1 := Lib.hid hn1; have HN2 := Lib.hid hn2; have HK := Lib.hid hk
  clear h1 h2 hn1 hn2 hk _kd _kq
  go_enter Tryd.func5, Tryd.ntmps5
  go_wp2_with fail
  refine hL.mono ?_; rintro e w1 ⟨rfl, hb1⟩
  have HB1 := Lib.hid hb1
  clear hL
  by_cases hs1 : 30 < n1
  · have q1 : (30 : Int) < (n1 : Int) := by omega
    clear hs1
    go_wp2_with fail
    go_ret
    exact ⟨rfl, HB1.out⟩
  by_cases hs2 : 30 < n2
  · have q1 : ¬ (30 : Int) < (n1 : Int) := by omega
    have q2 : (30 : Int) < (n2 : Int) := by omega
    clear hs1 hs2
    go_wp2_with fail
    go_ret
    exact ⟨rfl, HB1.out⟩
  have q1 : ¬ (30 : Int) < (n1 : Int) := by omega
  have q2 : ¬ (30 : Int) < (n2 : Int) := by omega
  have HS1 := Lib.hid hs1; have HS2 := Lib.hid hs2
  have hC := Make_any (.slice a1 n1 c1) (.slice a2 n2 c2) ins outs day w1 (H1.out.below hb1) (H2.out.below hb1) (by have := HN1.out; omega) (by have := HN2.out; omega)
  obtain ⟨X, hX⟩ : ∃ X, Cm.mk ins outs day = X := ⟨_, rfl⟩
  rw [hX] at hC
  have HX := Lib.hid hX
  clear hs1 hs2 hb1 hX
  go_wp2_with fail
  refine hC.mono ?_; rintro e w2 ⟨hres, hb2⟩
  have hbw2 := HB1.out.trans (hb2.mono HB1.out.size)
  have HBW2 := Lib.hid hbw2
  clear hC hb2 hbw2
  cases X with
  | error cc =>
    obtain rfl : e = _ := hres
    have hcc : ¬ cc = 0 := by rcases mk_err HX.out with rfl | rfl | rfl <;> decide
    go_wp2_with fail
    go_ret
    exact ⟨rfl, HBW2.out.alloc HBW2.out.size _⟩
  | ok p =>
    obtain ⟨d, ls⟩ := p
    obtain ⟨a3, c3, rfl, hs⟩ := hres
    obtain ⟨-, -, -, -, hd, -⟩ := Cm.mk_ok HX.out
    obtain rfl : d = day := hd
    obtain ⟨hg, hp1⟩ := Cm.mk_good HX.out
    obtain ⟨m1, m2, m3, m4⟩ := mk_levels HX.out
    dsimp only at hg hp1
    have hat := AtA.new (day := d) hs
    have hb3 := HBW2.out.alloc HBW2.out.size (.cells #[.int .i64 d, .slice a3 ls.length c3] 26)
    obtain ⟨V, hV⟩ : ∃ V, w2.alloc (.cells #[.int .i64 d, .slice a3 ls.length c3] 26) = V := ⟨_, rfl⟩
    obtain ⟨B, hB⟩ : ∃ B, w2.heap.size = B := ⟨_, rfl⟩
    rw [hV] at hat hb3
    rw [hB] at hat
    obtain ⟨za, zc, dz, sz⟩ := hat
    obtain ⟨s0, hs0⟩ : ∃ s, ls[0]?.getD Cm.nil = s := ⟨_, rfl⟩
    obtain ⟨s1, hs1⟩ : ∃ s, ls[1]?.getD Cm.nil = s := ⟨_, rfl⟩
    obtain ⟨L, hL⟩ : ∃ L, outs.filter (Sm.has s0) = L := ⟨_, rfl⟩
    have hLl : L.length ≤ 30 := by rw [← hL]; have h1 := Cm.filter_len (Sm.has s0) outs; have h2 := HN2.out; have h3 := HS2.out; omega
    rw [hs0] at m1 m2 m3 m4
    rw [hs1] at m3
    rw [hL] at m2 m3
    have h16 : ls.length ≤ 16 := hg.1
    obtain ⟨nl, hnl⟩ : ∃ n, ls.length = n := ⟨_, rfl⟩
    rw [hnl] at dz sz hp1 h16 m2 hV ⊢
    have r1 := H1.out.below hb3; have r2 := H2.out.below hb3
    have y0 := dz.cell0; have y1 := dz.cell1; have yl := dz.lt
    have i1 : (1 : Int) ≤ (nl : Int) := by omega
    have i2 : ¬ (nl : Int) < 1 := by omega
    have i3 : ¬ (16 : Int) < (nl : Int) := by omega
    have HV := Lib.hid hV; have HB := Lib.hid hB; have DZ := Lib.hid dz; have SZ := Lib.hid sz; have HB3 := Lib.hid hb3; have R1 := Lib.hid r1; have R2 := Lib.hid r2
    have M1 := Lib.hid m1; have M2 := Lib.hid m2; have M3 := Lib.hid m3; have M4 := Lib.hid m4; have HS0 := Lib.hid hs0; have HSo := Lib.hid hs1; have HL := Lib.hid hL; have HNL := Lib.hid hnl; have HP1 := Lib.hid hp1; have H16 := Lib.hid h16; have HLL := Lib.hid hLl
    clear hV hB dz sz hb3 hg r1 r2 hs m1 m2 m3 m4 hs0 hs1 hL hnl hp1 h16 hLl y0 y1 yl
    go_wp2_with fail
    rw [HV.out, HB.out]
    have y0 := DZ.out.cell0; have y1 := DZ.out.cell1; have yl := DZ.out.lt
    (try go_wp2_with fail)
    clear y0 y1 yl i1 i2 i3
    go_loopw [12] (fun i wr => ∃ k : Nat, i = .int .i64 k ∧ k ≤ n1 ∧ Below V.heap.size V wr) (fun i _ => n1 - (intOf i).toNat)
    case atStart => exact ⟨0, rfl, Nat.zero_le _, Below.refl _ _⟩
    case round =>
      obtain ⟨k, rfl, hk, hb⟩ := hrel
      have HBr := Lib.hid hb
      have k0 : (0 : Int) ≤ (k : Int) := by omega
      have e1 : IntKind.i64.wrap ((k : Int) + 1) = (k : Int) + 1 := IntWalk.i64_in _ (by have := HS1.out; omega)
      have dz := DZ.out.stp hb; have sz := SZ.out.below hb
      have y0 := dz.cell0; have y1 := dz.cell1; have yl := dz.lt
      have l0 : (0 : Int) < (nl : Int) := by have := HP1.out; omega
      obtain ⟨lb, lo, rfl, llt, vb, rb, t0, t1, t2, t3⟩ := sz.level 0 (by rw [HNL.out]; exact HP1.out)
      rw [HS0.out] at rb t0 t1 t2
      simp only [Nat.zero_mul, Nat.add_zero] at t0 t1 t2 t3
      obtain ⟨g0, hg0⟩ : ∃ z, s0.bits = z := ⟨_, rfl⟩
      obtain ⟨g1, hg1⟩ : ∃ z, s0.hashes = z := ⟨_, rfl⟩
      obtain ⟨g2, hg2⟩ : ∃ z, s0.salt = z := ⟨_, rfl⟩
      have hHas : ∀ (x : Int) (b : Bool) (W : World), Sm.has s0 x = b → Row .u8 W vb s0.b → Calls Tryd.prog 13 #[.agg #[.int .i64 g0, .int .i64 g1, .int .i64 g2, vb], .int .i64 x] W fun e w' => e = .returned (.bool b) ∧ Below W.heap.size W w' := fun x b W hx hr => by
        rw [← hg0, ← hg1, ← hg2]; exact Has_is s0 vb x b W hr hx
      rw [hg0] at t0; rw [hg1] at t1; rw [hg2] at t2
      have HG0 := Lib.hid hg0; have HG1 := Lib.hid hg1; have HG2 := Lib.hid hg2
      clear hg0 hg1 hg2
      by_cases hlt : k < n1
      · obtain ⟨b0, o0, rfl, hbl, hck⟩ := (R1.out.below hb).cellAt k (by rw [HN1.out]; exact hlt)
        have hh := M1.out _ (mem_at (l := ins) (k := k) (by rw [HN1.out]; exact hlt))
        obtain ⟨x, hx⟩ : ∃ x, ins[k]?.getD 0 = x := ⟨_, rfl⟩
        rw [hx] at hck hh
        have k1 : (k : Int) < (n1 : Int) := by omega
        have q_y0 := cell_regrown y0; have q_y1 := cell_regrown y1; have q_ck := cell_regrown hck
        have q_t0 := cell_regrown t0; have q_t1 := cell_regrown t1; have q_t2 := cell_regrown t2; have q_t3 := cell_regrown t3
        have p1 : ∀ dd os, Calls Tryd.prog 13 #[.agg #[.int .i64 g0, .int .i64 g1, .int .i64 g2, vb], .int .i64 x] (grow (redrawn wr dd) os) fun e w'' => e = .returned (.bool true) ∧ ∃ p : Regrown, w'' = grow (redrawn wr p.d) p.os := fun dd os => Calls.regrown_of (by have bw := below_regrown wr dd os; exact hHas x true _ hh (rb.below bw))
        clear hb dz sz hx hh hHas
        go_wp2_with fail
        refine wp_region_quiet_below (by kernel_rfl) (by kernel_rfl) ?_
        repeat (go_big_quiet_step (first | with_reducible exact p1 _ _ | fail))
        refine wpQuiet_nil ?_
        intro _ hw'
        obtain ⟨⟨dq, osq⟩, hw''⟩ := hw'
        subst hw''
        go_wp2_with fail
        go_roundw
        case rel => exact ⟨k + 1, by go_num, by omega, HBr.out.trans ((below_regrown wr dq osq).mono HBr.out.size)⟩
        case measure => simp [intOf]; omega
      · obtain rfl : k = n1 := by omega
        have hSo := Some_row s0 vb (.slice a2 n2 c2) outs L wr rb (R2.out.below hb) (by have := HN2.out; have := HS2.out; omega) HL.out
        rw [HG0.out, HG1.out, HG2.out] at hSo
        obtain ⟨m, hm⟩ : ∃ m, L.length = m := ⟨_, rfl⟩
        have hm2 := M2.out
        have hdec : decide ((0 : Int) < (m : Int)) = decide ((1 : Int) < (nl : Int)) := by
          rw [decide_eq_decide]
          constructor
          · intro h
            have : L ≠ [] := by rintro rfl; simp at hm; omega
            have := hm2.2 this; omega
          · intro h
            have h1 := hm2.1 (by omega)
            have := List.length_pos_iff.2 h1; omega
        rw [hm] at hSo
        obtain ⟨P, hP⟩ : ∃ P, decide ((1 : Int) < (nl : Int)) = P := ⟨_, rfl⟩
        rw [hP] at hdec
        have HM := Lib.hid hm; have HDec := Lib.hid hdec; have HPp := Lib.hid hP; have RB := Lib.hid rb; have DZr := Lib.hid dz; have SZr := Lib.hid sz
        clear hb hlt hHas dz sz rb hm hm2 hdec hP
        go_wp2_with fail
        refine hSo.mono ?_; rintro e w4 ⟨a4, c4, rfl, r4, hb4⟩
        have hbV4 := HBr.out.trans (hb4.mono HBr.out.size)
        have dz := DZr.out.stp hb4; have sz := SZr.out.below hb4
        have rb4 := RB.out.below hb4
        have R4 := Lib.hid r4; have HB4 := Lib.hid hbV4; have DZ4 := Lib.hid dz; have SZ4 := Lib.hid sz; have RB4 := Lib.hid rb4
        have u0 := (hb4.cell (p := ⟨lb, lo, none⟩) llt).trans t0
        have u1 := (hb4.cell (p := ⟨lb, lo + 1, none⟩) llt).trans t1
        have u2 := (hb4.cell (p := ⟨lb, lo + 2, none⟩) llt).trans t2
        have u3 := (hb4.cell (p := ⟨lb, lo + 3, none⟩) llt).trans t3
        have ult : lb < w4.heap.size := Nat.lt_of_lt_of_le llt hb4.size
        clear hSo t0 t1 t2 t3 y0 y1 yl r4 hb4 hbV4 rb4 llt
        have T0 := Lib.hid u0; have T1 := Lib.hid u1; have T2 := Lib.hid u2; have T3 := Lib.hid u3; have LLT := Lib.hid ult
        have y0 := dz.cell0; have y1 := dz.cell1; have yl := dz.lt
        clear dz sz u0 u1 u2 u3 ult
        by_cases hm0 : m = 0
        · subst hm0
          have hnl1 : nl = 1 := by
            have h1 := M2.out; have h2 := HP1.out
            have h3 : ¬ 1 < nl := fun h => h1.1 h (List.eq_nil_of_length_eq_zero HM.out)
            omega
          subst hnl1
          go_wp2_with fail
          clear y0 y1 yl
          obtain ⟨wo, rfl⟩ : ∃ wo : World, wo = wr := ⟨_, rfl⟩
          go_loopw [14] (fun i wr => ∃ j : Nat, i = .int .i64 j ∧ j ≤ 0 ∧ Below w4.heap.size w4 wr) (fun i _ => 0 - (intOf i).toNat)
          case atStart => exact ⟨0, rfl, Nat.zero_le _, Below.refl _ _⟩
          case round =>
            obtain ⟨j, rfl, hj, hb⟩ := hrel
            have HBs := Lib.hid hb
            have j0 : (0 : Int) ≤ (j : Int) := by omega
            have e2 : IntKind.i64.wrap ((j : Int) + 1) = (j : Int) + 1 := IntWalk.i64_in _ (by have := HLL.out; have := HM.out; omega)
            have dz := DZ4.out.stp hb; have sz := SZ4.out.below hb
            have y0 := dz.cell0; have y1 := dz.cell1; have yl := dz.lt
            obtain rfl : j = 0 := by omega
            have hlt4 := Nat.lt_of_lt_of_le LLT.out hb.size
            have t0 := (hb.cell (p := ⟨lb, lo, none⟩) LLT.out).trans T0.out
            have t1 := (hb.cell (p := ⟨lb, lo + 1, none⟩) LLT.out).trans T1.out
            have t2 := (hb.cell (p := ⟨lb, lo + 2, none⟩) LLT.out).trans T2.out
            have t3 := (hb.cell (p := ⟨lb, lo + 3, none⟩) LLT.out).trans T3.out
            have i0 : (0 : Int) < (1 : Int) := by have := HP1.out; omega
            obtain ⟨h0, hh0⟩ : ∃ b, Sm.has s0 q = b := ⟨_, rfl⟩
            have hC := Has_is s0 vb q h0 wr (RB4.out.below hb) hh0
            rw [HG0.out, HG1.out, HG2.out] at hC
            have hBf := HB3.out.trans ((HB4.out.trans (hb.mono HB4.out.size)).mono HB3.out.size)
            have HBF := Lib.hid hBf
            clear hBf
            cases h0 with
            | true =>
              clear hb dz sz hh0
              go_wp2_with fail
              refine hC.mono ?_; rintro e w7 ⟨rfl, hb7⟩
              clear hC
              go_wp2_with fail
              go_ret
              exact ⟨rfl, HBF.out.trans (hb7.mono HBF.out.size)⟩
            | false =>
              have hno := M4.out q hh0
              have HNo := Lib.hid hno; have DZr := Lib.hid dz; have SZr := Lib.hid sz
              clear hb dz sz hh0 hno
              go_wp2_with fail
              refine hC.mono ?_; rintro e w7 ⟨rfl, hb7⟩
              have d7 := DZr.out.stp hb7
              have hC2 := CHas_any d _ ls q w7 (SZr.out.below hb7) (by rw [HNL.out]; have := H16.out; omega)
              rw [HNo.out] at hC2
              have HB7 := Lib.hid (HBF.out.trans (hb7.mono HBF.out.size))
              clear hC hb7 t0 t1 t2 t3 y0 y1 yl hlt4
              have y0 := d7.cell0; have y1 := d7.cell1; have yl := d7.lt
              clear d7
              go_wp2_with fail
              refine hC2.mono ?_; rintro e w8 ⟨rfl, hb8⟩
              clear hC2
              go_wp2_with fail
              go_ret
              exact ⟨rfl, HB7.out.trans (hb8.mono HB7.out.size)⟩
        · have hnl1 : 1 < nl := M2.out.2 (fun h => hm0 (by rw [← HM.out, h]; rfl))
          have z1 : (0 : Int) < (m : Int) := by omega
          have z2 : (1 : Int) < (nl : Int) := by omega
          have z3 : decide ((0 : Int) < (m : Int)) = true := decide_eq_true z1
          have z4 : decide ((1 : Int) < (nl : Int)) = true := decide_eq_true z2
          have z5 : decide (0 < m) = true := decide_eq_true (by omega)
          have z6 : decide (1 < nl) = true := decide_eq_true hnl1
          have Hnl1 := Lib.hid hnl1
          clear hnl1
          go_wp2_with fail
          clear y0 y1 yl z1 z2 z3 z4 z5 z6
          obtain ⟨wo, rfl⟩ : ∃ wo : World, wo = wr := ⟨_, rfl⟩
          go_loopw [14] (fun i wr => ∃ j : Nat, i = .int .i64 j ∧ j ≤ m ∧ Below w4.heap.size w4 wr) (fun i _ => m - (intOf i).toNat)
          case atStart => exact ⟨0, rfl, Nat.zero_le _, Below.refl _ _⟩
          case round =>
            obtain ⟨j, rfl, hj, hb⟩ := hrel
            have HBs := Lib.hid hb
            have j0 : (0 : Int) ≤ (j : Int) := by omega
            have e2 : IntKind.i64.wrap ((j : Int) + 1) = (j : Int) + 1 := IntWalk.i64_in _ (by have := HLL.out; have := HM.out; omega)
            have dz := DZ4.out.stp hb; have sz := SZ4.out.below hb
            have y0 := dz.cell0; have y1 := dz.cell1; have yl := dz.lt
            by_cases hlj : j < m
            · have z2 : (1 : Int) < (nl : Int) := by have := Hnl1.out; omega
              obtain ⟨lb1, lo1, ee, llt1, vb1, rb1, v0, v1, v2, v3⟩ := sz.level 1 (by rw [HNL.out]; exact Hnl1.out)
              cases ee
              rw [HSo.out] at rb1 v0 v1 v2
              simp only [Nat.one_mul] at v0 v1 v2 v3
              obtain ⟨b0, o0, rfl, hbl, hck⟩ := (R4.out.below hb).cellAt j (by rw [HM.out]; exact hlj)
              have hh := M3.out _ (mem_at (l := L) (k := j) (by rw [HM.out]; exact hlj))
              obtain ⟨x, hx⟩ : ∃ x, L[j]?.getD 0 = x := ⟨_, rfl⟩
              rw [hx] at hck hh
              obtain ⟨f0, hf0⟩ : ∃ z, s1.bits = z := ⟨_, rfl⟩
              obtain ⟨f1, hf1⟩ : ∃ z, s1.hashes = z := ⟨_, rfl⟩
              obtain ⟨f2, hf2⟩ : ∃ z, s1.salt = z := ⟨_, rfl⟩
              rw [hf0] at v0; rw [hf1] at v1; rw [hf2] at v2
              have j1 : (j : Int) < (m : Int) := by omega
              have q_y0 := cell_regrown y0; have q_y1 := cell_regrown y1; have q_ck := cell_regrown hck
              have q_t0 := cell_regrown v0; have q_t1 := cell_regrown v1; have q_t2 := cell_regrown v2; have q_t3 := cell_regrown v3
              have p1 : ∀ dd os, Calls Tryd.prog 13 #[.agg #[.int .i64 f0, .int .i64 f1, .int .i64 f2, vb1], .int .i64 x] (grow (redrawn wr dd) os) fun e w'' => e = .returned (.bool true) ∧ ∃ p : Regrown, w'' = grow (redrawn wr p.d) p.os := fun dd os => Calls.regrown_of (by have bw := below_regrown wr dd os; rw [← hf0, ← hf1, ← hf2]; exact Has_is s1 vb1 x true _ (rb1.below bw) hh)
              clear hb dz sz hx hh hf0 hf1 hf2 rb1
              go_wp2_with fail
              refine wp_region_quiet_below (by kernel_rfl) (by kernel_rfl) ?_
              repeat (go_big_quiet_step (first | with_reducible exact p1 _ _ | fail))
              refine wpQuiet_nil ?_
              intro _ hw'
              obtain ⟨⟨dq, osq⟩, hw''⟩ := hw'
              subst hw''
              go_wp2_with fail
              go_roundw
              case rel => exact ⟨j + 1, by go_num, by omega, HBs.out.trans ((below_regrown wr dq osq).mono HBs.out.size)⟩
              case measure => simp [intOf]; omega
            obtain rfl : j = m := by omega
            have hlt4 := Nat.lt_of_lt_of_le LLT.out hb.size
            have t0 := (hb.cell (p := ⟨lb, lo, none⟩) LLT.out).trans T0.out
            have t1 := (hb.cell (p := ⟨lb, lo + 1, none⟩) LLT.out).trans T1.out
            have t2 := (hb.cell (p := ⟨lb, lo + 2, none⟩) LLT.out).trans T2.out
            have t3 := (hb.cell (p := ⟨lb, lo + 3, none⟩) LLT.out).trans T3.out
            have i0 : (0 : Int) < (nl : Int) := by have := HP1.out; omega
            obtain ⟨h0, hh0⟩ : ∃ b, Sm.has s0 q = b := ⟨_, rfl⟩
            have hC := Has_is s0 vb q h0 wr (RB4.out.below hb) hh0
            rw [HG0.out, HG1.out, HG2.out] at hC
            have hBf := HB3.out.trans ((HB4.out.trans (hb.mono HB4.out.size)).mono HB3.out.size)
            have HBF := Lib.hid hBf
            clear hBf
            cases h0 with
            | true =>
              clear hb dz sz hh0
              go_wp2_with fail
              refine hC.mono ?_; rintro e w7 ⟨rfl, hb7⟩
              clear hC
              go_wp2_with fail
              go_ret
              exact ⟨rfl, HBF.out.trans (hb7.mono HBF.out.size)⟩
            | false =>
              have hno := M4.out q hh0
              have HNo := Lib.hid hno; have DZr := Lib.hid dz; have SZr := Lib.hid sz
              clear hb dz sz hh0 hno
              go_wp2_with fail
              refine hC.mono ?_; rintro e w7 ⟨rfl, hb7⟩
              have d7 := DZr.out.stp hb7
              have hC2 := CHas_any d _ ls q w7 (SZr.out.below hb7) (by rw [HNL.out]; have := H16.out; omega)
              rw [HNo.out] at hC2
              have HB7 := Lib.hid (HBF.out.trans (hb7.mono HBF.out.size))
              clear hC hb7 t0 t1 t2 t3 y0 y1 yl hlt4
              have y0 := d7.cell0; have y1 := d7.cell1; have yl := d7.lt
              clear d7
              go_wp2_with fail
              refine hC2.mono ?_; rintro e w8 ⟨rfl, hb8⟩
              clear hC2
              go_wp2_with fail
              go_ret
              exact ⟨rfl, HB7.out.trans (hb8.mono HB7.out.size)⟩
end Go.Proofs.YtfdchdnkblmijaaDoor
