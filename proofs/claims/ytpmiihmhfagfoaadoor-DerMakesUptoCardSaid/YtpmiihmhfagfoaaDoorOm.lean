/-
  The walk of DerMakes: of any number, text, bytes, truth, and items. (Printed by wip/gen_makes.py.)
-/
import Derived.Test.YtpmiihmhfagfoaaDoorR6
import Derived.Test.YtpmiihmhfagfoaaDoorRs7
import Derived.Test.YtpmiihmhfagfoaaDoorEi
import Derived.Test.YtpmiihmhfagfoaaDoorEx
namespace Go.Proofs.YtpmiihmhfagfoaaDoor
open Go.RowKit Go.Sort

theorem i64_bounds {n : Int} (h : (Lit.int .i64 n).wf = true) : -9223372036854775808 ≤ n ∧ n ≤ 9223372036854775807 := by
  simp [Lit.wf, IntKind.min, IntKind.max, IntKind.bits, IntKind.signed] at h
  omega

set_option maxRecDepth 100000 in
set_option maxHeartbeats 4000000 in
theorem DerMakes_any (n : Int) (s : ByteArray) (v2 : Value) (l2 : List Int) (t : Bool) (v4 : Value) (l : List Dm.It) (w : World) (hk : KindsAt w) (hn : (Lit.int .i64 n).wf = true) (_hs : s.size ≤ maxLen) (h2 : Row .u8 w v2 l2) (hl : ItsV w v4 l) (hw : Dm.wts l ≤ 1048576) :
    Calls Tryd.prog 11 #[.int .i64 n, .string s, v2, .bool t, v4] w fun e w' => e = .returned (.bool true) ∧ Below w.heap.size w w' := by
  obtain ⟨a2, c2, rfl⟩ := h2.shape l2.length rfl
  obtain ⟨a4, c4, rfl⟩ := hl.shape
  obtain ⟨n2, hn2⟩ : ∃ n, l2.length = n := ⟨_, rfl⟩
  obtain ⟨n4, hn4⟩ : ∃ n, l.length = n := ⟨_, rfl⟩
  rw [hn2] at h2 ⊢
  rw [hn4] at hl ⊢
  have hC1 := live07_true w hk
  have hnb := i64_bounds hn
  have HK := Lib.hid hk; have H2 := Lib.hid h2; have HL := Lib.hid hl; have HN2 := Lib.hid hn2; have HN4 := Lib.hid hn4; have HNB := Lib.hid hnb; have HW := Lib.hid hw
  clear hk h2 hl hn2 hn4 hn hnb _hs hw
  go_enter Tryd.func11, Tryd.ntmps11
  go_wp2_with fail
  refine hC1.mono ?_; rintro e w1 ⟨rfl, hb⟩
  have HB1 := Lib.hid hb
  clear hC1 hb
  by_cases hs1 : (1000 : Int) < (s.size : Int)
  · go_wp2_with fail
    go_ret
    exact ⟨rfl, HB1.out⟩
  by_cases hs2 : (1000 : Int) < (n2 : Int)
  · go_wp2_with fail
    go_ret
    exact ⟨rfl, HB1.out⟩
  have hC2 := few_any _ l w1 (HL.out.below HB1.out) (by have := HW.out; omega)
  obtain ⟨F, hF⟩ : ∃ F, fewB l = F := ⟨_, rfl⟩
  rw [hF] at hC2
  have HF := Lib.hid hF
  clear hF
  go_wp2_with fail
  refine hC2.mono ?_; rintro e w2 ⟨rfl, hb⟩
  have hB2 := HB1.out.trans (hb.mono HB1.out.size)
  have HB2 := Lib.hid hB2
  clear hC2 hb hB2
  cases F with
  | false =>
    go_wp2_with fail
    go_ret
    exact ⟨rfl, HB2.out⟩
  | true =>
  have hfew := fewB_true HF.out
  have h12 : n4 ≤ 12 := by have := hfew.1; rw [HN4.out] at this; exact this
  clear hfew
  go_wp2_with fail
  go_loopw [11] (fun i wr => ∃ k : Nat, i = .int .i64 k ∧ k ≤ n4 ∧ Below w.heap.size w wr) (fun i _ => 30 - (intOf i).toNat)
  case atStart => exact ⟨0, rfl, Nat.zero_le _, HB2.out⟩
  case round =>
    obtain ⟨k, rfl, hk, hb⟩ := hrel
    have k0 : (0 : Int) ≤ (k : Int) := by omega
    have e1 : IntKind.i64.wrap ((k : Int) + 1) = (k : Int) + 1 := IntWalk.i64_in _ (by omega)
    by_cases hlt : k + 1 < n4
    · have k1 : (k : Int) + 1 < (n4 : Int) := by omega
      have k2 : (k : Int) < (n4 : Int) := by omega
      have k3 : (0 : Int) ≤ (k : Int) + 1 := by omega
      have kc : ((k + 1 : Nat) : Int) = (k : Int) + 1 := by omega
      have kt : ((k : Int) + 1).toNat = k + 1 := by omega
      obtain ⟨b, off, ab2, cb2, al2, cl2, rfl, hbl, x0, x1, x2, hpx⟩ := HL.out.at_ k (by rw [HN4.out]; omega)
      obtain ⟨b', off', ab3, cb3, al3, cl3, e', hbl', y0, y1, y2, hpy⟩ := HL.out.at_ (k + 1) (by rw [HN4.out]; omega)
      cases e'
      have x0 := (hb.cell (p := ⟨b, _, none⟩) hbl).trans x0
      have x1 := (hb.cell (p := ⟨b, _, none⟩) hbl).trans x1
      have x2 := (hb.cell (p := ⟨b, _, none⟩) hbl).trans x2
      have y0 := (hb.cell (p := ⟨b, _, none⟩) hbl').trans y0
      have y1 := (hb.cell (p := ⟨b, _, none⟩) hbl').trans y1
      have y2 := (hb.cell (p := ⟨b, _, none⟩) hbl').trans y2
      obtain ⟨x', hx'⟩ : ∃ y, l[k]?.getD Dm.no = y := ⟨_, rfl⟩
      obtain ⟨y', hy'⟩ : ∃ z, l[k + 1]?.getD Dm.no = z := ⟨_, rfl⟩
      rw [hx'] at x0 x1 x2 hpx
      rw [hy'] at y0 y1 y2 hpy
      have hCa := fun W (h : Below wr.heap.size wr W) => Same_any x' y' W _ _ _ _ ((hpx.below hb).below h) ((hpy.below hb).below h)
      have hCb := fun W (h : Below wr.heap.size wr W) => RSame_any x' y' W _ _ _ _ ((hpx.below hb).below h) ((hpy.below hb).below h)
      obtain ⟨G, hG⟩ : ∃ F, Dm.eqIt x' y' = F := ⟨_, rfl⟩
      rw [hG] at hCa hCb
      have HB := Lib.hid hb
      clear hx' hy' hpx hpy hb hG
      have q_x0 := cell_regrown x0; have q_x1 := cell_regrown x1; have q_x2 := cell_regrown x2
      have q_y0 := cell_regrown y0; have q_y1 := cell_regrown y1; have q_y2 := cell_regrown y2
      have q1 : ∀ d os, Calls Tryd.prog 19 #[.agg #[.int .i64 x'.tag, .slice ab2 x'.b.length cb2, .slice al2 x'.l.length cl2], .agg #[.int .i64 y'.tag, .slice ab3 y'.b.length cb3, .slice al3 y'.l.length cl3]] (grow (redrawn wr d) os) fun e w'' => e = .returned (.bool G) ∧ ∃ p : Regrown, w'' = grow (redrawn wr p.d) p.os := fun d os => Calls.regrown_of (hCa _ (below_regrown wr d os))
      have q2 : ∀ d os, Calls Tryd.prog 18 #[.agg #[.int .i64 x'.tag, .slice ab2 x'.b.length cb2, .slice al2 x'.l.length cl2], .agg #[.int .i64 y'.tag, .slice ab3 y'.b.length cb3, .slice al3 y'.l.length cl3]] (grow (redrawn wr d) os) fun e w'' => e = .returned (.bool G) ∧ ∃ p : Regrown, w'' = grow (redrawn wr p.d) p.os := fun d os => Calls.regrown_of (hCb _ (below_regrown wr d os))
      clear hCa hCb
      go_wp2_with fail
      refine wp_region_quiet_below (by kernel_rfl) (by kernel_rfl) ?_
      repeat (go_big_quiet_step (first | with_reducible exact q1 _ _ | with_reducible exact q2 _ _))
      refine wpQuiet_nil ?_
      intro _ hw'
      obtain ⟨⟨dq, osq⟩, hw''⟩ := hw'
      subst hw''
      have hB3 := HB.out.trans ((below_regrown wr dq osq).mono HB.out.size)
      have HB3 := Lib.hid hB3
      clear hB3 q1 q2 q_x0 q_x1 q_x2 q_y0 q_y1 q_y2 x0 x1 x2 y0 y1 y2
      go_wp2_with fail
      go_roundw
      case rel => exact ⟨k + 1, by go_num, by omega, HB3.out⟩
      case measure => simp [intOf]; omega
    · have k1 : ¬ (k : Int) + 1 < (n4 : Int) := by omega
      have hC3 := Seq_mk _ l wr (HL.out.below hb) (by rw [HN4.out]; omega)
      rw [HN4.out] at hC3
      have HB := Lib.hid hb
      clear hb
      go_wp2_with fail
      refine hC3.mono ?_; rintro e w3 ⟨⟨a5, c5, rfl, p5⟩, hb⟩
      have hB := HB.out.trans (hb.mono HB.out.size)
      have hC4 := rSeq_mk _ l w3 (HL.out.below hB) (by rw [HN4.out]; omega)
      rw [HN4.out] at hC4
      have HB := Lib.hid hB; have P5 := Lib.hid p5
      clear hC3 hb hB p5
      go_wp2_with fail
      refine hC4.mono ?_; rintro e w4 ⟨⟨a6, c6, rfl, p6⟩, hb⟩
      have hC5 := RSame_any (.mk 48 [] l) (.mk 48 [] l) w4 _ _ _ _ (P5.out.below hb) p6
      rw [(Dm.eqIt_iff _ _).2 rfl] at hC5
      have hC6 : Calls Tryd.prog 18 #[.agg #[.int .i64 48, .slice none 0 0, .slice a5 n4 c5], .agg #[.int .i64 48, .slice none 0 0, .slice a6 n4 c6]] w4 fun e w' => e = .returned (.bool true) ∧ Below w4.heap.size w4 w' := hC5
      have hB := HB.out.trans (hb.mono HB.out.size)
      have HB := Lib.hid hB
      clear hC4 hC5 hb hB p6
      go_wp2_with fail
      refine hC6.mono ?_; rintro e w5 ⟨rfl, hb⟩
      have hB := HB.out.trans (hb.mono HB.out.size)
      have HB := Lib.hid hB
      clear hC6 hb hB
      have hC := (Int_any n w5)
      go_wp2_with fail
      refine hC.mono ?_; rintro e w6 ⟨⟨a5, c5, rfl, o5⟩, hb⟩
      have hB := HB.out.trans (hb.mono HB.out.size)
      have HB := Lib.hid hB; have P5 := Lib.hid o5.it
      clear hC hb hB o5
      have hC := (rInt_mk n w6 HNB.out.1 HNB.out.2)
      go_wp2_with fail
      refine hC.mono ?_; rintro e w7 ⟨⟨a6, c6, rfl, p6⟩, hb⟩
      have hC5 := RSame_any (.mk 2 (intB n) []) (.mk 2 (intB n) []) w7 _ _ _ _ (P5.out.below hb) p6
      rw [(Dm.eqIt_iff _ _).2 rfl] at hC5
      have hC6 : Calls Tryd.prog 18 #[.agg #[.int .i64 2, .slice a5 (intB n).length c5, .slice none 0 0], .agg #[.int .i64 2, .slice a6 (intB n).length c6, .slice none 0 0]] w7 fun e w' => e = .returned (.bool true) ∧ Below w7.heap.size w7 w' := hC5
      have hB := HB.out.trans (hb.mono HB.out.size)
      have HB := Lib.hid hB
      clear hC hC5 hb hB p6
      go_wp2_with fail
      refine hC6.mono ?_; rintro e w8 ⟨rfl, hb⟩
      have hB := HB.out.trans (hb.mono HB.out.size)
      have HB := Lib.hid hB
      clear hC6 hb hB
      have hC := (Text_mk s w8 (by omega))
      go_wp2_with fail
      refine hC.mono ?_; rintro e w9 ⟨⟨a5, c5, rfl, o5⟩, hb⟩
      have hB := HB.out.trans (hb.mono HB.out.size)
      have HB := Lib.hid hB; have P5 := Lib.hid o5.it
      clear hC hb hB o5
      have hC := (rText_mk s w9 (by omega))
      go_wp2_with fail
      refine hC.mono ?_; rintro e w10 ⟨⟨a6, c6, rfl, p6⟩, hb⟩
      have hC5 := RSame_any (.mk 12 (strB s) []) (.mk 12 (strB s) []) w10 _ _ _ _ (P5.out.below hb) p6
      rw [(Dm.eqIt_iff _ _).2 rfl] at hC5
      have hC6 : Calls Tryd.prog 18 #[.agg #[.int .i64 12, .slice a5 (strB s).length c5, .slice none 0 0], .agg #[.int .i64 12, .slice a6 (strB s).length c6, .slice none 0 0]] w10 fun e w' => e = .returned (.bool true) ∧ Below w10.heap.size w10 w' := hC5
      have hB := HB.out.trans (hb.mono HB.out.size)
      have HB := Lib.hid hB
      clear hC hC5 hb hB p6
      go_wp2_with fail
      refine hC6.mono ?_; rintro e w11 ⟨rfl, hb⟩
      have hB := HB.out.trans (hb.mono HB.out.size)
      have HB := Lib.hid hB
      clear hC6 hb hB
      have hC := (Oct_mk _ l2 w11 (H2.out.below HB.out) (by rw [HN2.out]; omega))
      go_wp2_with fail
      refine hC.mono ?_; rintro e w12 ⟨⟨a5, c5, rfl, o5⟩, hb⟩
      have hB := HB.out.trans (hb.mono HB.out.size)
      have HB := Lib.hid hB; have P5 := Lib.hid o5.it
      clear hC hb hB o5
      have hC := (rOct_mk _ l2 w12 (H2.out.below HB.out) (by rw [HN2.out]; omega))
      go_wp2_with fail
      refine hC.mono ?_; rintro e w13 ⟨⟨a6, c6, rfl, p6⟩, hb⟩
      have hC5 := RSame_any (.mk 4 l2 []) (.mk 4 l2 []) w13 _ _ _ _ (P5.out.below hb) p6
      rw [(Dm.eqIt_iff _ _).2 rfl] at hC5
      have hC6 : Calls Tryd.prog 18 #[.agg #[.int .i64 4, .slice a5 l2.length c5, .slice none 0 0], .agg #[.int .i64 4, .slice a6 l2.length c6, .slice none 0 0]] w13 fun e w' => e = .returned (.bool true) ∧ Below w13.heap.size w13 w' := hC5
      have hB := HB.out.trans (hb.mono HB.out.size)
      have HB := Lib.hid hB
      clear hC hC5 hb hB p6
      go_wp2_with fail
      refine hC6.mono ?_; rintro e w14 ⟨rfl, hb⟩
      have hB := HB.out.trans (hb.mono HB.out.size)
      have HB := Lib.hid hB
      clear hC6 hb hB
      have hC := (Bool_mk t w14)
      go_wp2_with fail
      refine hC.mono ?_; rintro e w15 ⟨⟨a5, c5, rfl, o5⟩, hb⟩
      have hB := HB.out.trans (hb.mono HB.out.size)
      have HB := Lib.hid hB; have P5 := Lib.hid o5.it
      clear hC hb hB o5
      have hC := (rBool_mk t w15)
      go_wp2_with fail
      refine hC.mono ?_; rintro e w16 ⟨⟨a6, c6, rfl, p6⟩, hb⟩
      have hC5 := RSame_any (.mk 1 [if t then 255 else 0] []) (.mk 1 [if t then 255 else 0] []) w16 _ _ _ _ (P5.out.below hb) p6.it
      rw [(Dm.eqIt_iff _ _).2 rfl] at hC5
      have hC6 : Calls Tryd.prog 18 #[.agg #[.int .i64 1, .slice a5 1 c5, .slice none 0 0], .agg #[.int .i64 1, .slice a6 1 c6, .slice none 0 0]] w16 fun e w' => e = .returned (.bool true) ∧ Below w16.heap.size w16 w' := hC5
      have hB := HB.out.trans (hb.mono HB.out.size)
      have HB := Lib.hid hB
      clear hC hC5 hb hB p6
      go_wp2_with fail
      refine hC6.mono ?_; rintro e w17 ⟨rfl, hb⟩
      have hB := HB.out.trans (hb.mono HB.out.size)
      have HB := Lib.hid hB
      clear hC6 hb hB
      go_wp2_with fail
      go_ret
      exact ⟨rfl, HB.out⟩
end Go.Proofs.YtpmiihmhfagfoaaDoor
