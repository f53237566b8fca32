/-
  The walk over RevokeTells. (Printed by wip/gen_revlaws.py.)
-/
import Derived.Test.YtconpdliadhahaaZa
import Derived.Lib.QuietBelow
import Derived.BigQuiet
namespace Go.Proofs.Ytconpdliadhahaa
open Go.RowKit Go.Sort

/-- No cascade of a day. -/
theorem Day_no (vl vg : Value) (live gone : List Int) (day : Int) (w : World) (h : Row .i64 w vl live) (hg : Row .i64 w vg gone) (hl : live.length ≤ 1000000) (hgl : gone.length ≤ 1000000) (hno : Rv.day live gone day = none) :
    Calls Try.prog 21 #[.agg #[vl, vg], .int .i64 day] w fun e w' => (∃ cc : Int, cc ≠ 0 ∧ e = .returned (.tuple #[.agg #[.int .i64 0, .slice none 0 0], .int .i64 cc])) ∧ Below w.heap.size w w' := by
  by_cases ho : Rv.okay live gone
  · by_cases hd : Cm.dated day
    · unfold Rv.day at hno
      rw [if_pos ⟨ho, hd⟩] at hno
      exact (Day_none vl vg live gone day w h hg hl hgl ho ⟨hd, hno⟩).mono fun _ _ h => ⟨⟨2, by decide, h.1⟩, h.2⟩
    · exact (Day_arg vl vg live gone day w h hg hl hgl ho hd).mono fun _ _ h => ⟨⟨1, by decide, h.1⟩, h.2⟩
  · exact Day_not vl vg live gone day w h hg hl hgl ho
/-- The cascade of a day. -/
theorem Day_yes (vl vg : Value) (live gone : List Int) (day : Int) (ls : List Sm.Sv) (w : World) (h : Row .i64 w vl live) (hg : Row .i64 w vg gone) (hl : live.length ≤ 1000000) (hgl : gone.length ≤ 1000000) (hs : Rv.day live gone day = some ls) :
    Calls Try.prog 21 #[.agg #[vl, vg], .int .i64 day] w fun e w' => (∃ a c, e = .returned (.tuple #[.agg #[.int .i64 day, .slice a ls.length c], .int .i64 0]) ∧ Svs w' (.slice a ls.length c) ls) ∧ Below w.heap.size w w' := by
  obtain ⟨ho, hd, -⟩ := Rv.day_has hs
  have hs2 := hs
  unfold Rv.day at hs2
  rw [if_pos ⟨ho, hd⟩] at hs2
  exact (Day_some vl vg live gone day ls w h hg hl hgl ho ⟨hd, hs2⟩).mono fun _ _ ⟨a, c, h1, h2, h3⟩ => ⟨⟨a, c, h1, h2⟩, h3⟩
set_option maxRecDepth 100000 in
set_option maxHeartbeats 8000000 in
theorem RevokeTells_any (v : Value) (x : List Int × List Int) (day : Int) (w : World) (h : RvV w v x) (_k2 : (Lit.int .i64 day).wf = true) :
    Calls Try.prog 4 #[v, .int .i64 day] w fun e w' => e = .returned (.bool true) ∧ Below w.heap.size w w' := by
  clear _k2
  obtain ⟨live, gone, al, cl, ag, cg, rfl, rl, rg⟩ := h.parts
  clear h
  have hB := Below.refl w.heap.size w
  go_enter Try.func4, Try.ntmps4
  have bR := Duo.new w 24 (.slice al live.length cl) (.slice ag gone.length cg)
  go_wp2_with fail
  refine (live27_true _).mono ?_; rintro e w1 ⟨rfl, hb⟩
  replace hB := bel_stp (bel_alloc hB _) hb
  replace rl := (rl.alloc _).stp hb
  replace rg := (rg.alloc _).stp hb
  replace bR := bR.stp hb
  clear hb
  have c0_bR := bR.cell0
  have c1_bR := bR.cell1
  have lt_bR := bR.lt
  obtain ⟨fw, hfw⟩ : ∃ b, (decide (live.length ≤ 40) && decide (gone.length ≤ 40)) = b := ⟨_, rfl⟩
  have HFw := Lib.hid hfw
  clear hfw
  go_wp2_with fail
  refine (LFew_any live.length gone.length al ag cl cg _).mono ?_; rintro e w2 ⟨rfl, hb⟩
  clear c0_bR c1_bR lt_bR
  replace hB := bel_stp hB hb
  replace rl := rl.stp hb
  replace rg := rg.stp hb
  replace bR := bR.stp hb
  clear hb
  rw [HFw.out]
  cases fw
  case false =>
    have c0_bR := bR.cell0
    have c1_bR := bR.cell1
    have lt_bR := bR.lt
    go_wp2_with fail
    go_ret
    exact ⟨rfl, hB⟩
  obtain ⟨n1, n2⟩ : live.length ≤ 40 ∧ gone.length ≤ 40 := by have := HFw.out; simpa using this
  clear HFw
  obtain ⟨o, ho⟩ : ∃ o, Rv.day live gone day = o := ⟨_, rfl⟩
  cases o
  case none =>
    have HO := Lib.hid ho
    clear ho
    have c0_bR := bR.cell0
    have c1_bR := bR.cell1
    have lt_bR := bR.lt
    go_wp2_with fail
    refine (Day_no _ _ live gone day _ rl rg (by omega) (by omega) HO.out).mono ?_; rintro e w3 ⟨⟨cc, hcc, rfl⟩, hb⟩
    clear c0_bR c1_bR lt_bR
    replace hB := bel_stp hB hb
    replace rl := rl.stp hb
    replace rg := rg.stp hb
    replace bR := bR.stp hb
    clear hb
    have bC := Duo.new w3 35 (.int .i64 0) (.slice none 0 0)
    have c0_bC := bC.cell0
    have c1_bC := bC.cell1
    have lt_bC := bC.lt
    go_wp2_with fail
    go_ret
    exact ⟨rfl, (bel_alloc hB _)⟩
  rename_i ls
  obtain ⟨ok, hd, hgd, hl1, h1, h2⟩ := Rv.day_has ho
  have hw : ∀ x ∈ live, Cm.has day ls x = decide (x ∈ gone) := fun x hx => by
    by_cases hxg : x ∈ gone
    · rw [decide_eq_true hxg]; exact h1 x hxg
    · rw [decide_eq_false hxg]; exact h2 x hx hxg
  have hcc : Cm.chk day ls = 0 := by unfold Cm.chk; rw [if_neg (by have := hgd.1; omega), if_pos hgd]
  have l16 : ls.length ≤ 1000000 := by have := hgd.1; omega
  have HO := Lib.hid ho; have OK := Lib.hid ok; have HW := Lib.hid hw; have HC := Lib.hid hcc; have L16 := Lib.hid l16
  clear ho ok hd hgd hl1 h1 h2 hw hcc l16
  have c0_bR := bR.cell0
  have c1_bR := bR.cell1
  have lt_bR := bR.lt
  go_wp2_with fail
  refine (Day_yes _ _ live gone day ls _ rl rg (by omega) (by omega) HO.out).mono ?_; rintro e w3 ⟨⟨a3, c3, rfl, sv⟩, hb⟩
  clear c0_bR c1_bR lt_bR
  replace hB := bel_stp hB hb
  replace rl := rl.stp hb
  replace rg := rg.stp hb
  replace bR := bR.stp hb
  clear hb
  have bC := Duo.new w3 35 (.int .i64 day) (.slice a3 ls.length c3)
  replace hB := bel_alloc hB (.cells #[.int .i64 day, .slice a3 ls.length c3] 35)
  replace rl := rl.alloc (.cells #[.int .i64 day, .slice a3 ls.length c3] 35)
  replace rg := rg.alloc (.cells #[.int .i64 day, .slice a3 ls.length c3] 35)
  replace bR := bR.alloc (.cells #[.int .i64 day, .slice a3 ls.length c3] 35)
  replace sv := sv.alloc (.cells #[.int .i64 day, .slice a3 ls.length c3] 35)
  obtain ⟨V, hV⟩ : ∃ V, World.alloc w3 (.cells #[.int .i64 day, .slice a3 ls.length c3] 35) = V := ⟨_, rfl⟩
  rw [hV] at hB rl rg bR sv bC
  have c0_bR := bR.cell0
  have c1_bR := bR.cell1
  have lt_bR := bR.lt
  go_wp2_with fail
  (try rw [hV])
  clear c0_bR c1_bR lt_bR
  obtain ⟨N, hN⟩ : ∃ N, live.length = N := ⟨_, rfl⟩
  have HN := Lib.hid hN
  clear hN
  go_loopw [7] (fun i wr => ∃ k : Nat, k ≤ live.length ∧ i = .int .i64 k ∧ Below V.heap.size V wr) (fun i _ => live.length - (intOf i).toNat)
  case atStart => exact ⟨0, Nat.zero_le _, rfl, Below.refl _ _⟩
  case round =>
    obtain ⟨k, hk, rfl, hb⟩ := hrel
    have hK := Lib.hid hb
    clear hV
    replace hB := bel_stp hB hb
    replace rl := rl.stp hb
    replace rg := rg.stp hb
    replace bR := bR.stp hb
    replace sv := sv.stp hb
    replace bC := bC.stp hb
    clear hb
    have k0 : (0 : Int) ≤ (k : Int) := by omega
    have e1 : IntKind.i64.wrap ((k : Int) + 1) = (k : Int) + 1 := IntWalk.i64_in _ (by omega)
    have HB := Lib.hid hB
    have RL := Lib.hid rl; have RG := Lib.hid rg; have SV := Lib.hid sv
    clear rl rg sv hB
    by_cases hlt : k < live.length
    case pos =>
      have k1 : (k : Int) < (live.length : Int) := by omega
      obtain ⟨_, _, e', _, _, _, _, h5⟩ := RL.out
      cases e'
      obtain ⟨b0, o0, rfl, hb0, hc0⟩ := h5 (by rintro rfl; simp at hlt)
      have hck := hc0 k hlt
      obtain ⟨x, hx⟩ : ∃ x, live[k]?.getD 0 = x := ⟨_, rfl⟩
      rw [hx] at hck
      have hm : x ∈ live := mem_at hlt hx
      have hy2 := HW.out x hm
      clear hc0 h5 hx hm
      obtain ⟨y, hy⟩ : ∃ y, decide (x ∈ gone) = y := ⟨_, rfl⟩
      rw [hy] at hy2
      have Y1 := Lib.hid hy; have Y2 := Lib.hid hy2
      clear hy hy2
      cases y
      case false =>
        have c0_bC := bC.cell0
        have c1_bC := bC.cell1
        have lt_bC := bC.lt
        have c0_bR := bR.cell0
        have c1_bR := bR.cell1
        have lt_bR := bR.lt
        have q_c0_bC := cell_regrown c0_bC
        have q_c1_bC := cell_regrown c1_bC
        have q_c0_bR := cell_regrown c0_bR
        have q_c1_bR := cell_regrown c1_bR
        have q_hck := cell_regrown hck
        have q1 : ∀ d os, Calls Try.prog 22 #[.agg #[.int .i64 day, .slice a3 ls.length c3], .int .i64 x] (grow (redrawn wr d) os) fun e w'' => e = .returned (.bool false) ∧ ∃ p : Regrown, w'' = grow (redrawn wr p.d) p.os := fun d os => Calls.regrown_of (by have bw := below_regrown wr d os; exact (CHas_any day _ ls x _ (SV.out.below bw) L16.out).mono (fun _ _ h => ⟨by rw [h.1, Y2.out], h.2⟩))
        have q2 : ∀ d os, Calls Try.prog 17 #[.agg #[.slice (some ⟨b0, o0, none⟩) live.length cl, .slice ag gone.length cg], .int .i64 x] (grow (redrawn wr d) os) fun e w'' => e = .returned (.bool false) ∧ ∃ p : Regrown, w'' = grow (redrawn wr p.d) p.os := fun d os => Calls.regrown_of (by have bw := below_regrown wr d os; exact (RGone_any _ _ gone x _ live.length _ _ rfl (RG.out.below bw) (by omega)).mono (fun _ _ h => ⟨by rw [h.1, Y1.out], h.2⟩))
        go_wp2_with fail
        (try rw [hV])
        refine wp_region_quiet_below (by kernel_rfl) (by kernel_rfl) ?_
        repeat (go_big_quiet_step (first | exact q1 _ _ | exact q2 _ _))
        refine wpQuiet_nil ?_
        intro _ hw'
        obtain ⟨⟨dq, osq⟩, hw''⟩ := hw'
        subst hw''
        go_wp2_with fail
        go_roundw
        case rel => exact ⟨k + 1, by omega, by go_num, hK.out.trans ((below_regrown wr dq osq).mono hK.out.size)⟩
        case measure => simp [intOf]; omega
      case true =>
        have c0_bC := bC.cell0
        have c1_bC := bC.cell1
        have lt_bC := bC.lt
        have c0_bR := bR.cell0
        have c1_bR := bR.cell1
        have lt_bR := bR.lt
        have q_c0_bC := cell_regrown c0_bC
        have q_c1_bC := cell_regrown c1_bC
        have q_c0_bR := cell_regrown c0_bR
        have q_c1_bR := cell_regrown c1_bR
        have q_hck := cell_regrown hck
        have q1 : ∀ d os, Calls Try.prog 22 #[.agg #[.int .i64 day, .slice a3 ls.length c3], .int .i64 x] (grow (redrawn wr d) os) fun e w'' => e = .returned (.bool true) ∧ ∃ p : Regrown, w'' = grow (redrawn wr p.d) p.os := fun d os => Calls.regrown_of (by have bw := below_regrown wr d os; exact (CHas_any day _ ls x _ (SV.out.below bw) L16.out).mono (fun _ _ h => ⟨by rw [h.1, Y2.out], h.2⟩))
        have q2 : ∀ d os, Calls Try.prog 17 #[.agg #[.slice (some ⟨b0, o0, none⟩) live.length cl, .slice ag gone.length cg], .int .i64 x] (grow (redrawn wr d) os) fun e w'' => e = .returned (.bool true) ∧ ∃ p : Regrown, w'' = grow (redrawn wr p.d) p.os := fun d os => Calls.regrown_of (by have bw := below_regrown wr d os; exact (RGone_any _ _ gone x _ live.length _ _ rfl (RG.out.below bw) (by omega)).mono (fun _ _ h => ⟨by rw [h.1, Y1.out], h.2⟩))
        go_wp2_with fail
        (try rw [hV])
        refine wp_region_quiet_below (by kernel_rfl) (by kernel_rfl) ?_
        repeat (go_big_quiet_step (first | exact q1 _ _ | exact q2 _ _))
        refine wpQuiet_nil ?_
        intro _ hw'
        obtain ⟨⟨dq, osq⟩, hw''⟩ := hw'
        subst hw''
        go_wp2_with fail
        go_roundw
        case rel => exact ⟨k + 1, by omega, by go_num, hK.out.trans ((below_regrown wr dq osq).mono hK.out.size)⟩
        case measure => simp [intOf]; omega
    obtain rfl : k = live.length := by omega
    have rl := RL.out
    have rg := RG.out
    have sv := SV.out
    have hB := HB.out
    clear RL RG SV HB hK
    have c0_bR := bR.cell0
    have c1_bR := bR.cell1
    have lt_bR := bR.lt
    have c0_bC := bC.cell0
    have c1_bC := bC.cell1
    have lt_bC := bC.lt
    go_wp2_with fail
    refine (CCheck_any day _ ls _ sv L16.out).mono ?_; rintro e w4 ⟨rfl, hb⟩
    clear c0_bR c1_bR lt_bR c0_bC c1_bC lt_bC
    replace hB := bel_stp hB hb
    replace rl := rl.stp hb
    replace rg := rg.stp hb
    replace bR := bR.stp hb
    replace sv := sv.stp hb
    replace bC := bC.stp hb
    clear hb
    rw [HC.out]
    have c0_bR := bR.cell0
    have c1_bR := bR.cell1
    have lt_bR := bR.lt
    have c0_bC := bC.cell0
    have c1_bC := bC.cell1
    have lt_bC := bC.lt
    go_wp2_with fail
    refine (RCheck_any _ _ live gone _ rl rg (by omega) (by omega)).mono ?_; rintro e w5 ⟨rfl, hb⟩
    clear c0_bR c1_bR lt_bR c0_bC c1_bC lt_bC
    replace hB := bel_stp hB hb
    replace rl := rl.stp hb
    replace rg := rg.stp hb
    replace bR := bR.stp hb
    replace sv := sv.stp hb
    replace bC := bC.stp hb
    clear hb
    rw [Rv.chk_okay OK.out]
    go_wp2_with fail
    go_ret
    exact ⟨rfl, hB⟩
end Go.Proofs.Ytconpdliadhahaa
