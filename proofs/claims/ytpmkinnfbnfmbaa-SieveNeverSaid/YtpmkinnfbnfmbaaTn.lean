/-
  The walk over SieveNever.
-/
import Derived.Test.YtpmkinnfbnfmbaaTo
namespace Go.Proofs.Ytpmkinnfbnfmbaa
open Go.RowKit

set_option maxRecDepth 100000 in
set_option maxHeartbeats 4000000 in
theorem SieveNever_any (vl : Value) (l : List Int) (bits' hashes salt : Int) (w : World) (h : Row .i64 w vl l) (_k1 : (Lit.int .i64 bits').wf = true) (_k2 : (Lit.int .i64 hashes).wf = true) (_k3 : (Lit.int .i64 salt).wf = true) :
    Calls Try.prog 6 #[vl, .int .i64 bits', .int .i64 hashes, .int .i64 salt] w fun e w' => e = .returned (.bool true) ∧ Below w.heap.size w w' := by
  obtain ⟨a_l, c_l, rfl⟩ := h.shape l.length rfl
  have hB := Below.refl w.heap.size w
  have rl := h
  clear h _k1 _k2 _k3
  go_enter Try.func6, Try.ntmps6
  go_wp2_with fail
  refine (live_true _).mono ?_; rintro e w1 ⟨rfl, hb⟩
  replace hB := bel_stp hB hb
  replace rl := rl.stp hb
  clear hb
  by_cases g_l : (60 : Int) < (l.length : Int)
  case pos =>
    go_wp2_with fail
    go_ret
    exact ⟨rfl, hB⟩
  obtain ⟨z, hz⟩ : ∃ z, Sm.fresh bits' hashes salt = z := ⟨_, rfl⟩
  obtain ⟨s, hs⟩ : ∃ s, Sm.ofS z l = s := ⟨_, rfl⟩
  obtain ⟨cc, hcc⟩ : ∃ cc, Sm.ofE z l = cc := ⟨_, rfl⟩
  have HZ := Lib.hid hz; have HS := Lib.hid hs; have HC := Lib.hid hcc
  clear hz hs hcc
  go_wp2_with fail
  refine (Of_all _ l bits' hashes salt s cc _ rl (by omega) (by rw [HZ.out]; exact HS.out) (by rw [HZ.out]; exact HC.out)).mono ?_; rintro e w2 ⟨a_s, c_s, rfl, rs, hb⟩
  replace hB := bel_stp hB hb
  replace rl := rl.stp hb
  clear hb
  have dS := Quad.new w2 24 (.int .i64 s.bits) (.int .i64 s.hashes) (.int .i64 s.salt) (.slice a_s s.b.length c_s)
  by_cases hy : Sm.ok z ∧ Sm.allRight l
  case neg =>
    have hs0 : s = ⟨0, 0, 0, []⟩ := by rw [← HS.out]; exact if_neg hy
    have hc0 : cc = 1 := by rw [← HC.out]; exact if_neg hy
    subst hs0 hc0
    clear hy
    have c3 := dS.cell3
    go_wp2_with fail
    go_ret
    exact ⟨rfl, (bel_alloc hB _)⟩
  have hc0 : cc = 0 := by rw [← HC.out]; exact if_pos hy
  subst hc0
  have HY := Lib.hid hy
  have hall : ∀ i, i < l.length → Sm.has s (l[i]?.getD 0) = true := fun i hi => by rw [← HS.out, List.getElem?_eq_getElem hi]; exact Sm.has_of z l _ HY.out (List.getElem_mem hi)
  have hfil : l.filter (Sm.has s) = l := by
    rw [List.filter_eq_self]
    intro x hx
    rw [← HS.out]; exact Sm.has_of z l x HY.out hx
  have hoks : Sm.ok s := by rw [← HS.out]; exact Sm.ok_of z l HY.out
  have HAll := Lib.hid hall; have HFil := Lib.hid hfil; have HOks := Lib.hid hoks
  clear hy hall hfil hoks
  have c0_dS := dS.cell0; have c1_dS := dS.cell1; have c2_dS := dS.cell2; have c3_dS := dS.cell3; have lt_dS := dS.lt
  go_wp2_with fail
  clear c0_dS c1_dS c2_dS c3_dS lt_dS
  replace hB := bel_alloc hB (.cells #[.int .i64 s.bits, .int .i64 s.hashes, .int .i64 s.salt, .slice a_s s.b.length c_s] 24)
  replace rl := rl.alloc (.cells #[.int .i64 s.bits, .int .i64 s.hashes, .int .i64 s.salt, .slice a_s s.b.length c_s] 24)
  replace rs := rs.alloc (.cells #[.int .i64 s.bits, .int .i64 s.hashes, .int .i64 s.salt, .slice a_s s.b.length c_s] 24)
  generalize hV_W0 : World.alloc w2 (.cells #[.int .i64 s.bits, .int .i64 s.hashes, .int .i64 s.salt, .slice a_s s.b.length c_s] 24) = W0 at *
  generalize hg_W0 : w2.heap.size = gs at *
  clear hV_W0 hg_W0
  go_loopw [11] (fun i wr => ∃ k : Nat, i = .int .i64 k ∧ k ≤ l.length ∧ Below W0.heap.size W0 wr) (fun i _ => l.length - (intOf i).toNat)
  case atStart => exact ⟨0, rfl, Nat.zero_le _, Below.refl _ _⟩
  case round =>
    obtain ⟨k, rfl, hk, hb⟩ := hrel
    have hbl := hb
    replace hB := bel_stp hB hb
    replace rl := rl.stp hb
    replace rs := rs.stp hb
    replace dS := dS.stp hb
    clear hb
    have k0 : (0 : Int) ≤ (k : Int) := by omega
    have e1 : IntKind.i64.wrap ((k : Int) + 1) = (k : Int) + 1 := IntWalk.i64_in _ (by omega)
    by_cases hlt : k < l.length
    case pos =>
      have c0_dS := dS.cell0; have c1_dS := dS.cell1; have c2_dS := dS.cell2; have c3_dS := dS.cell3; have lt_dS := dS.lt
      obtain ⟨b_l, o_l, ea, hc_l⟩ : ∃ b o, a_l = some ⟨b, o, none⟩ ∧ ∀ i, i < l.length → wr.cell? ⟨b, o + i, none⟩ = some (.int .i64 (l[i]?.getD 0)) := by
        obtain ⟨_, _, e, _, _, _, _, h5⟩ := rl
        cases e
        obtain ⟨b, o, e, _, hc⟩ := h5 (by intro h0; rw [h0] at hlt; simp at hlt)
        exact ⟨b, o, e, hc⟩
      replace hc_l := hc_l k hlt
      obtain ⟨x, hxx⟩ : ∃ x, l[k]?.getD 0 = x := ⟨_, rfl⟩
      rw [hxx] at hc_l
      have Hx := Lib.hid hxx
      clear hxx
      subst ea
      have k1 : (k : Int) < (l.length : Int) := by omega
      have hh : Sm.has s x = true := by rw [← Hx.out]; exact HAll.out k hlt
      have Hh := Lib.hid hh
      clear hh
      go_wp2_with fail
      go_region_held3 (fun w' => w'.cell? ⟨gs, 0, none⟩ = some (.int .i64 s.bits) ∧ w'.cell? ⟨gs, 1, none⟩ = some (.int .i64 s.hashes) ∧ w'.cell? ⟨gs, 2, none⟩ = some (.int .i64 s.salt) ∧ w'.cell? ⟨gs, 3, none⟩ = some (.slice a_s s.b.length c_s) ∧ w'.cell? ⟨b_l, o_l + k, none⟩ = some (.int .i64 x))
        (first | go_keep | (refine ⟨?_, ?_, ?_, ?_, ?_⟩ <;> assumption))
        (first | (go_at_call 12; refine (Has_is s _ x true _ (by exact rs) Hh.out).mono ?_; rintro e wq ⟨rfl, hb⟩; have stq : Below wr.heap.size wr wq := below_undrew hb; have dq := dS.stp stq; have c0q := dq.cell0; have c1q := dq.cell1; have c2q := dq.cell2; have c3q := dq.cell3; have hcq := (World.cell?_of_block (a := ⟨b_l, o_l + k, none⟩) (stq.block b_l (World.block_lt_of_cell? _ _ hc_l))).trans hc_l) | fail)
      all_goals
        clear c0q c1q c2q c3q hcq dq hb
        have hb := stq
        clear stq
        clear hc_l
        clear c0_dS c1_dS c2_dS c3_dS lt_dS
        replace hB := bel_stp hB hb
        replace rl := rl.stp hb
        replace rs := rs.stp hb
        replace dS := dS.stp hb
        replace hbl := bel_stp hbl hb
        clear hb
        go_wp2_with fail
        go_roundw
        case rel => exact ⟨k + 1, by go_num, by omega, hbl⟩
        case measure => simp [intOf]; omega
    obtain rfl : k = l.length := by omega
    clear hlt
    clear hbl
    have c0_dS := dS.cell0; have c1_dS := dS.cell1; have c2_dS := dS.cell2; have c3_dS := dS.cell3; have lt_dS := dS.lt
    go_wp2_with fail
    refine (Check_yes s _ _ (by exact rs) HOks.out).mono ?_; rintro e w3 ⟨rfl, hb⟩
    clear c0_dS c1_dS c2_dS c3_dS lt_dS
    replace hB := bel_stp hB hb
    replace rl := rl.stp hb
    replace rs := rs.stp hb
    replace dS := dS.stp hb
    clear hb
    have c0_dS := dS.cell0; have c1_dS := dS.cell1; have c2_dS := dS.cell2; have c3_dS := dS.cell3; have lt_dS := dS.lt
    go_wp2_with fail
    refine (Some_row s _ _ l l _ (by exact rs) (by exact rl) (by omega) HFil.out).mono ?_; rintro e w4 ⟨aq, cq, rfl, rq, hb⟩
    clear c0_dS c1_dS c2_dS c3_dS lt_dS
    replace hB := bel_stp hB hb
    replace rl := rl.stp hb
    replace rs := rs.stp hb
    replace dS := dS.stp hb
    clear hb
    go_wp2_with fail
    refine (Ints_yes _ _ l _ rq rl (by omega)).mono ?_; rintro e w5 ⟨rfl, hb⟩
    replace hB := bel_stp hB hb
    replace rl := rl.stp hb
    replace rs := rs.stp hb
    replace dS := dS.stp hb
    replace rq := rq.stp hb
    clear hb
    go_wp2_with fail
    go_ret
    exact ⟨rfl, hB⟩
end Go.Proofs.Ytpmkinnfbnfmbaa
