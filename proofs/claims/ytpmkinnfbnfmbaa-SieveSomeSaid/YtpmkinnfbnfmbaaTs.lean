/-
  The walk over SieveSome.
-/
import Derived.Test.YtpmkinnfbnfmbaaTo
namespace Go.Proofs.Ytpmkinnfbnfmbaa
open Go.RowKit

theorem Sm.filter_mem {q : Int → Bool} {l L : List Int} (h : l.filter q = L) (i : Nat) (hi : i < L.length) : q (L[i]?.getD 0) = true := by
  rw [List.getElem?_eq_getElem hi]
  have : L[i] ∈ l.filter q := by rw [h]; exact List.getElem_mem hi
  exact (List.mem_filter.1 this).2
theorem Sm.filter_count (q : Int → Bool) (l : List Int) (k : Nat) (h : k < l.length) : ((l.take (k + 1)).filter q).length = ((l.take k).filter q).length + (if q (l[k]?.getD 0) = true then 1 else 0) := by
  rw [List.take_succ_eq_append_getElem h, List.filter_append, List.length_append, List.getElem?_eq_getElem h]
  congr 1
  cases hq : q l[k] <;> simp [hq]

set_option maxRecDepth 100000 in
set_option maxHeartbeats 4000000 in
theorem SieveSome_any (v : Value) (s : Sm.Sv) (vl : Value) (l : List Int) (vm : Value) (m : List Int) (w : World) (h : SvV w v s) (hl0 : Row .i64 w vl l) (hm0 : Row .i64 w vm m) :
    Calls Try.prog 5 #[v, vl, vm] w fun e w' => e = .returned (.bool true) ∧ Below w.heap.size w w' := by
  obtain ⟨j0, gi, gz0, gz1, gz2⟩ := info_parts info_i64
  obtain ⟨vb, rfl, rs⟩ := h
  obtain ⟨a_s, c_s, rfl⟩ := rs.shape s.b.length rfl
  have hB := Below.refl w.heap.size w
  obtain ⟨a_l, c_l, rfl⟩ := hl0.shape l.length rfl
  obtain ⟨a_m, c_m, rfl⟩ := hm0.shape m.length rfl
  have hwl := hl0.wf; have hwm := hm0.wf
  have HWl := Lib.hid hwl; have HWm := Lib.hid hwm
  have rl := hl0; have rm := hm0
  clear hl0 hm0 hwl hwm
  go_enter Try.func5, Try.ntmps5
  have dS := Quad.new w 24 (.int .i64 s.bits) (.int .i64 s.hashes) (.int .i64 s.salt) (.slice a_s s.b.length c_s)
  go_wp2_with fail
  refine (live_true _).mono ?_; rintro e w1 ⟨rfl, hb⟩
  replace hB := bel_stp (bel_alloc hB _) hb
  replace rs := (rs.alloc _).stp hb
  replace rl := (rl.alloc _).stp hb
  replace rm := (rm.alloc _).stp hb
  replace dS := dS.stp hb
  clear hb
  have c0_dS := dS.cell0; have c1_dS := dS.cell1; have c2_dS := dS.cell2; have c3_dS := dS.cell3; have lt_dS := dS.lt
  go_wp2_with fail
  refine (few_any s _ _ l _ (by exact rs) (by exact rl)).mono ?_; rintro e w2 ⟨rfl, hb⟩
  clear c0_dS c1_dS c2_dS c3_dS lt_dS
  replace hB := bel_stp hB hb
  replace rs := rs.stp hb
  replace rl := rl.stp hb
  replace rm := rm.stp hb
  replace dS := dS.stp hb
  clear hb
  by_cases c : s.b.length ≤ 1100 ∧ l.length ≤ 60
  case neg =>
    rw [decide_eq_false c]
    go_wp2_with fail
    go_ret
    exact ⟨rfl, hB⟩
  rw [decide_eq_true c]
  obtain ⟨bs, bl⟩ := c
  by_cases g_m : (60 : Int) < (m.length : Int)
  case pos =>
    go_wp2_with fail
    go_ret
    exact ⟨rfl, hB⟩
  have bm : m.length ≤ 60 := by omega
  obtain ⟨A, hA⟩ : ∃ A, l.filter (Sm.has s) = A := ⟨_, rfl⟩
  obtain ⟨C, hC⟩ : ∃ C, m.filter (Sm.has s) = C := ⟨_, rfl⟩
  have hAC : (l ++ m).filter (Sm.has s) = A ++ C := by rw [List.filter_append, hA, hC]
  have hAA : A.filter (Sm.has s) = A := by rw [← hA, List.filter_filter]; simp
  have bA : A.length ≤ 60 := by rw [← hA]; have := List.length_filter_le (Sm.has s) l; omega
  have bC : C.length ≤ 60 := by rw [← hC]; have := List.length_filter_le (Sm.has s) m; omega
  have hwA : ∀ x ∈ A, (Lit.int .i64 x).wf = true := by rw [← hA]; exact fun x hx => HWl.out x (List.mem_filter.1 hx).1
  have hwC : ∀ x ∈ C, (Lit.int .i64 x).wf = true := by rw [← hC]; exact fun x hx => HWm.out x (List.mem_filter.1 hx).1
  have HA := Lib.hid hA; have HC := Lib.hid hC; have HAC := Lib.hid hAC; have HAA := Lib.hid hAA; have HWA := Lib.hid hwA; have HWC := Lib.hid hwC
  clear hA hC hAC hAA hwA hwC
  have c0_dS := dS.cell0; have c1_dS := dS.cell1; have c2_dS := dS.cell2; have c3_dS := dS.cell3; have lt_dS := dS.lt
  go_wp2_with fail
  refine (Some_row s _ _ l A _ (by exact rs) (by exact rl) (by omega) HA.out).mono ?_; rintro e w3 ⟨a_A, c_A, rfl, rA, hb⟩
  clear c0_dS c1_dS c2_dS c3_dS lt_dS
  replace hB := bel_stp hB hb
  replace rs := rs.stp hb
  replace rl := rl.stp hb
  replace rm := rm.stp hb
  replace dS := dS.stp hb
  clear hb
  have c0_dS := dS.cell0; have c1_dS := dS.cell1; have c2_dS := dS.cell2; have c3_dS := dS.cell3; have lt_dS := dS.lt
  go_wp2_with fail
  refine (Some_row s _ _ m C _ (by exact rs) (by exact rm) (by omega) HC.out).mono ?_; rintro e w4 ⟨a_C, c_C, rfl, rC, hb⟩
  clear c0_dS c1_dS c2_dS c3_dS lt_dS
  replace hB := bel_stp hB hb
  replace rs := rs.stp hb
  replace rl := rl.stp hb
  replace rm := rm.stp hb
  replace dS := dS.stp hb
  replace rA := rA.stp hb
  clear hb
  have c0_dS := dS.cell0; have c1_dS := dS.cell1; have c2_dS := dS.cell2; have c3_dS := dS.cell3; have lt_dS := dS.lt
  go_wp2_with fail
  generalize hgs : w.heap.size = gs at *
  replace hB : Below w.heap.size w w4 := by rw [hgs]; exact hB
  clear hgs
  have hw0 : Below w4.heap.size w4 w4 := Below.refl _ _
  obtain ⟨LM, hLM⟩ : ∃ LM, l ++ m = LM := ⟨_, rfl⟩
  have HLM := Lib.hid hLM
  have bLM : LM.length ≤ 200 := by rw [← hLM]; simp; omega
  clear hLM
  obtain ⟨AC, hAC2⟩ : ∃ AC, A ++ C = AC := ⟨_, rfl⟩
  rw [hAC2] at HAC
  have bAC : AC.length ≤ 200 := by rw [← hAC2]; simp; omega
  have HAC2 := Lib.hid hAC2
  clear hAC2
  go_region_held3 (fun w' => w'.cell? ⟨gs, 0, none⟩ = some (.int .i64 s.bits) ∧ w'.cell? ⟨gs, 1, none⟩ = some (.int .i64 s.hashes) ∧ w'.cell? ⟨gs, 2, none⟩ = some (.int .i64 s.salt) ∧ w'.cell? ⟨gs, 3, none⟩ = some (.slice a_s s.b.length c_s))
    (first | go_keep | (refine ⟨?_, ?_, ?_, ?_⟩ <;> assumption))
    (first
      | (rw [if_pos (by rfl)]; refine wp_append_ints (w0 := w4) (.tmp 31) (.tmp 32) 36 rfl 3 j0 (.int .i64 0) Try.underlying36 gi gz0 gz1 gz2 rfl (by repeat (first | with_reducible exact hw0 | refine bel_drew ?_ | refine bel_alloc ?_ _)) _ [] rfl (by first | exact owns_empty _ _ _ (by simp) | (exact owns_empty (World.drew w4) _ _ (Nat.le_refl _))) _ l rl rfl (by first | omega | (simp; done) | (simp; omega)) ?_; intro va wa oa ba; rw [List.nil_append] at oa; obtain ⟨x1, x2, x3, rfl⟩ := owns_slice oa; have dqa := dS.stp ba; have c0a := dqa.cell0; have c1a := dqa.cell1; have c2a := dqa.cell2; have c3a := dqa.cell3)
      | (rw [if_pos (by rfl)]; refine wp_append_ints (w0 := w4) (.tmp 33) (.tmp 34) 36 rfl 3 j0 (.int .i64 0) Try.underlying36 gi gz0 gz1 gz2 rfl ba _ l rfl oa _ m rm rfl (by first | omega | (simp; done) | (simp; omega)) ?_; intro vb wb ob bb; rw [HLM.out] at ob; have rLM := Row.owned64 ob (fun x hx => by rw [← HLM.out] at hx; rcases List.mem_append.1 hx with h | h; exact HWl.out x h; exact HWm.out x h); obtain ⟨a_q, c_q, rfl⟩ := rLM.shape LM.length rfl; have dqb := dS.stp bb; have c0b := dqb.cell0; have c1b := dqb.cell1; have c2b := dqb.cell2; have c3b := dqb.cell3)
      | (go_at_call 15; refine (Some_row s _ _ LM AC _ (by exact rs.stp bb) (by exact rLM) (by omega) (by rw [← HLM.out]; exact HAC.out)).mono ?_; rintro e wc ⟨a_t, c_t, rfl, rt, hb⟩; have bc : Below w4.heap.size w4 wc := bel_stp bb hb; have dqc := dS.stp bc; have c0c := dqc.cell0; have c1c := dqc.cell1; have c2c := dqc.cell2; have c3c := dqc.cell3)
      | fail)
  all_goals
    clear hw0 c0a c1a c2a c3a c0b c1b c2b c3b c0c c1c c2c c3c dqa dqb dqc oa ob ba bb rLM hb
    have hb := bc
    clear bc
    clear c0_dS c1_dS c2_dS c3_dS lt_dS
    replace hB := bel_stp hB hb
    replace rs := rs.stp hb
    replace rl := rl.stp hb
    replace rm := rm.stp hb
    replace dS := dS.stp hb
    replace rA := rA.stp hb
    replace rC := rC.stp hb
    clear hb
    skip
    go_wp2_with fail
    go_loopw [10] (fun i wr => ∃ k : Nat, i = .int .i64 k ∧ k ≤ A.length ∧ Below wc.heap.size wc wr) (fun i _ => A.length - (intOf i).toNat)
    case atStart => exact ⟨0, rfl, Nat.zero_le _, Below.refl _ _⟩
    case round =>
      obtain ⟨k, rfl, hk, hb⟩ := hrel
      have hbl := hb
      replace hB := bel_stp hB hb
      replace rs := rs.stp hb
      replace rl := rl.stp hb
      replace rm := rm.stp hb
      replace dS := dS.stp hb
      replace rA := rA.stp hb
      replace rC := rC.stp hb
      replace rt := rt.stp hb
      clear hb
      have k0 : (0 : Int) ≤ (k : Int) := by omega
      have e1 : IntKind.i64.wrap ((k : Int) + 1) = (k : Int) + 1 := IntWalk.i64_in _ (by omega)
      by_cases hlt : k < A.length
      case pos =>
        have c0_dS := dS.cell0; have c1_dS := dS.cell1; have c2_dS := dS.cell2; have c3_dS := dS.cell3; have lt_dS := dS.lt
        obtain ⟨b_x, o_x, ea, hc_x⟩ : ∃ b o, a_A = some ⟨b, o, none⟩ ∧ ∀ i, i < A.length → wr.cell? ⟨b, o + i, none⟩ = some (.int .i64 (A[i]?.getD 0)) := by
          obtain ⟨_, _, e, _, _, _, _, h5⟩ := rA
          cases e
          obtain ⟨b, o, e, _, hc⟩ := h5 (by intro h0; rw [h0] at hlt; simp at hlt)
          exact ⟨b, o, e, hc⟩
        replace hc_x := hc_x k (by omega)
        obtain ⟨x, hxx⟩ : ∃ x, A[k]?.getD 0 = x := ⟨_, rfl⟩
        rw [hxx] at hc_x
        have Hx := Lib.hid hxx
        clear hxx
        subst ea
        have hh : Sm.has s x = true := by rw [← Hx.out]; exact Sm.filter_mem HA.out k hlt
        have Hh := Lib.hid hh
        clear hh
        have k1 : (k : Int) < (A.length : Int) := by omega
        go_wp2_with fail
        go_region_held3 (fun w' => w'.cell? ⟨gs, 0, none⟩ = some (.int .i64 s.bits) ∧ w'.cell? ⟨gs, 1, none⟩ = some (.int .i64 s.hashes) ∧ w'.cell? ⟨gs, 2, none⟩ = some (.int .i64 s.salt) ∧ w'.cell? ⟨gs, 3, none⟩ = some (.slice a_s s.b.length c_s) ∧ w'.cell? ⟨b_x, o_x + k, none⟩ = some (.int .i64 x))
          (first | go_keep | (refine ⟨?_, ?_, ?_, ?_, ?_⟩ <;> assumption))
          (first | (go_at_call 12; refine (Has_is s _ x true _ (by exact rs) Hh.out).mono ?_; rintro e wq ⟨rfl, hb⟩; have stq : Below wr.heap.size wr wq := below_undrew hb; have dq := dS.stp stq; have c0q := dq.cell0; have c1q := dq.cell1; have c2q := dq.cell2; have c3q := dq.cell3; have hcq := (World.cell?_of_block (a := ⟨b_x, o_x + k, none⟩) (stq.block b_x (World.block_lt_of_cell? _ _ hc_x))).trans hc_x) | fail)
        all_goals
          clear c0q c1q c2q c3q hcq dq hb
          have hb := stq
          clear stq hc_x
          clear c0_dS c1_dS c2_dS c3_dS lt_dS
          replace hB := bel_stp hB hb
          replace rs := rs.stp hb
          replace rl := rl.stp hb
          replace rm := rm.stp hb
          replace dS := dS.stp hb
          replace rA := rA.stp hb
          replace rC := rC.stp hb
          replace rt := rt.stp hb
          replace hbl := bel_stp hbl hb
          clear hb
          go_wp2_with fail
          go_roundw
          case rel => exact ⟨k + 1, by go_num, by omega, hbl⟩
          case measure => simp [intOf]; omega
      obtain rfl : k = A.length := by omega
      clear hlt
      clear hbl
      go_wp2_with fail
      obtain ⟨wo, rfl⟩ : ∃ wo : World, wo = wr := ⟨_, rfl⟩
      go_loopw [11, 12] (fun kv iv wr => ∃ k : Nat, iv = .int .i64 k ∧ kv = .int .i64 (((l.take k).filter (Sm.has s)).length : Nat) ∧ k ≤ l.length ∧ Below wo.heap.size wo wr) (fun _ iv _ => l.length - (intOf iv).toNat)
      case atStart => exact ⟨0, rfl, rfl, Nat.zero_le _, Below.refl _ _⟩
      case round =>
        obtain ⟨k, rfl, rfl, hk, hb⟩ := hrel
        have hbl := hb
        replace hB := bel_stp hB hb
        replace rs := rs.stp hb
        replace rl := rl.stp hb
        replace rm := rm.stp hb
        replace dS := dS.stp hb
        replace rA := rA.stp hb
        replace rC := rC.stp hb
        replace rt := rt.stp hb
        clear hb
        obtain ⟨q, hq⟩ : ∃ q, ((l.take k).filter (Sm.has s)).length = q := ⟨_, rfl⟩
        have hqk : q ≤ l.length := by rw [← hq]; have := List.length_filter_le (Sm.has s) (l.take k); simp at this; omega
        rw [hq]
        have HQ := Lib.hid hq
        clear hq
        have k0 : (0 : Int) ≤ (k : Int) := by omega
        have e1 : IntKind.i64.wrap ((k : Int) + 1) = (k : Int) + 1 := IntWalk.i64_in _ (by omega)
        have e2 : IntKind.i64.wrap ((q : Int) + 1) = (q : Int) + 1 := IntWalk.i64_in _ (by omega)
        by_cases hlt : k < l.length
        case pos =>
          have c0_dS := dS.cell0; have c1_dS := dS.cell1; have c2_dS := dS.cell2; have c3_dS := dS.cell3; have lt_dS := dS.lt
          obtain ⟨b_x, o_x, ea, hc_x⟩ : ∃ b o, a_l = some ⟨b, o, none⟩ ∧ ∀ i, i < l.length → wr.cell? ⟨b, o + i, none⟩ = some (.int .i64 (l[i]?.getD 0)) := by
            obtain ⟨_, _, e, _, _, _, _, h5⟩ := rl
            cases e
            obtain ⟨b, o, e, _, hc⟩ := h5 (by intro h0; rw [h0] at hlt; simp at hlt)
            exact ⟨b, o, e, hc⟩
          replace hc_x := hc_x k (by omega)
          obtain ⟨x, hxx⟩ : ∃ x, l[k]?.getD 0 = x := ⟨_, rfl⟩
          rw [hxx] at hc_x
          have Hx := Lib.hid hxx
          clear hxx
          subst ea
          have k1 : (k : Int) < (l.length : Int) := by omega
          have hct := Sm.filter_count (Sm.has s) l k hlt
          rw [Hx.out, HQ.out] at hct
          obtain ⟨hv, hhv⟩ : ∃ b, Sm.has s x = b := ⟨_, rfl⟩
          rw [hhv] at hct
          have Hct := Lib.hid hct; have Hhv := Lib.hid hhv
          clear hct hhv
          cases hv
          case false =>
            go_wp2_with fail
            go_region_held3 (fun w' => w'.cell? ⟨gs, 0, none⟩ = some (.int .i64 s.bits) ∧ w'.cell? ⟨gs, 1, none⟩ = some (.int .i64 s.hashes) ∧ w'.cell? ⟨gs, 2, none⟩ = some (.int .i64 s.salt) ∧ w'.cell? ⟨gs, 3, none⟩ = some (.slice a_s s.b.length c_s) ∧ w'.cell? ⟨b_x, o_x + k, none⟩ = some (.int .i64 x))
              (first | go_keep | (refine ⟨?_, ?_, ?_, ?_, ?_⟩ <;> assumption))
              (first | (go_at_call 12; refine (Has_is s _ x false _ (by exact rs) Hhv.out).mono ?_; rintro e wq ⟨rfl, hb⟩; have stq : Below wr.heap.size wr wq := below_undrew hb; have dq := dS.stp stq; have c0q := dq.cell0; have c1q := dq.cell1; have c2q := dq.cell2; have c3q := dq.cell3; have hcq := (World.cell?_of_block (a := ⟨b_x, o_x + k, none⟩) (stq.block b_x (World.block_lt_of_cell? _ _ hc_x))).trans hc_x) | fail)
            all_goals
              clear c0q c1q c2q c3q hcq dq hb
              have hb := stq
              clear stq hc_x
              clear c0_dS c1_dS c2_dS c3_dS lt_dS
              replace hB := bel_stp hB hb
              replace rs := rs.stp hb
              replace rl := rl.stp hb
              replace rm := rm.stp hb
              replace dS := dS.stp hb
              replace rA := rA.stp hb
              replace rC := rC.stp hb
              replace rt := rt.stp hb
              replace hbl := bel_stp hbl hb
              clear hb
              go_wp2_with fail
              (try go_roundw)
              first
                | (case rel => refine ⟨k + 1, by go_num, ?_, by omega, hbl⟩; rw [Hct.out]; go_num)
                | (case rel => refine ⟨k + 1, by go_num, ?_, by omega, hbl⟩; rw [Hct.out]; simp)
              case measure => simp [intOf]; omega
          case true =>
            go_wp2_with fail
            go_region_held3 (fun w' => w'.cell? ⟨gs, 0, none⟩ = some (.int .i64 s.bits) ∧ w'.cell? ⟨gs, 1, none⟩ = some (.int .i64 s.hashes) ∧ w'.cell? ⟨gs, 2, none⟩ = some (.int .i64 s.salt) ∧ w'.cell? ⟨gs, 3, none⟩ = some (.slice a_s s.b.length c_s) ∧ w'.cell? ⟨b_x, o_x + k, none⟩ = some (.int .i64 x))
              (first | go_keep | (refine ⟨?_, ?_, ?_, ?_, ?_⟩ <;> assumption))
              (first | (go_at_call 12; refine (Has_is s _ x true _ (by exact rs) Hhv.out).mono ?_; rintro e wq ⟨rfl, hb⟩; have stq : Below wr.heap.size wr wq := below_undrew hb; have dq := dS.stp stq; have c0q := dq.cell0; have c1q := dq.cell1; have c2q := dq.cell2; have c3q := dq.cell3; have hcq := (World.cell?_of_block (a := ⟨b_x, o_x + k, none⟩) (stq.block b_x (World.block_lt_of_cell? _ _ hc_x))).trans hc_x) | fail)
            all_goals
              clear c0q c1q c2q c3q hcq dq hb
              have hb := stq
              clear stq hc_x
              clear c0_dS c1_dS c2_dS c3_dS lt_dS
              replace hB := bel_stp hB hb
              replace rs := rs.stp hb
              replace rl := rl.stp hb
              replace rm := rm.stp hb
              replace dS := dS.stp hb
              replace rA := rA.stp hb
              replace rC := rC.stp hb
              replace rt := rt.stp hb
              replace hbl := bel_stp hbl hb
              clear hb
              go_wp2_with fail
              (try go_roundw)
              first
                | (case rel => refine ⟨k + 1, by go_num, ?_, by omega, hbl⟩; rw [Hct.out]; go_num)
                | (case rel => refine ⟨k + 1, by go_num, ?_, by omega, hbl⟩; rw [Hct.out]; simp)
              case measure => simp [intOf]; omega
        obtain rfl : k = l.length := by omega
        have hqA : q = A.length := by rw [← HQ.out, List.take_length, HA.out]
        subst hqA
        clear hlt hk hqk
        clear hbl
        have c0_dS := dS.cell0; have c1_dS := dS.cell1; have c2_dS := dS.cell2; have c3_dS := dS.cell3; have lt_dS := dS.lt
        have hw0 : Below wr.heap.size wr wr := Below.refl _ _
        go_wp2_with (first
            | (at_builtin; (go_big_want; refine wp_append_ints (w0 := wr) (.tmp 70) (.tmp 71) 36 rfl 3 j0 (.int .i64 0) Try.underlying36 gi gz0 gz1 gz2 rfl (hw0.alloc (Nat.le_refl _) _) _ [] rfl (owns_empty wr wr.heap.size 3 (Nat.le_refl _)) _ A rA rfl (by first | omega | (simp; done) | (simp; omega)) ?_; intro va wa oa ba))
            | (at_builtin; (go_big_want; refine wp_append_ints (w0 := wr) (.tmp 72) (.tmp 73) 36 rfl 3 j0 (.int .i64 0) Try.underlying36 gi gz0 gz1 gz2 rfl ba _ A rfl (by rw [List.nil_append] at oa; exact oa) _ C rC rfl (by first | omega | (simp; done) | (simp; omega)) ?_; intro vb wb ob bb))
            | fail)
        rw [HAC2.out] at ob
        have rAC := Row.owned64 ob (fun x hx => by rw [← HAC2.out] at hx; rcases List.mem_append.1 hx with h | h; exact HWA.out x h; exact HWC.out x h)
        obtain ⟨a_z, c_z, rfl⟩ := rAC.shape AC.length rfl
        have hb := bb
        clear c0_dS c1_dS c2_dS c3_dS lt_dS
        replace hB := bel_stp hB hb
        replace rs := rs.stp hb
        replace rl := rl.stp hb
        replace rm := rm.stp hb
        replace dS := dS.stp hb
        replace rA := rA.stp hb
        replace rC := rC.stp hb
        replace rt := rt.stp hb
        clear hb
        clear ob oa ba bb hw0
        refine (Ints_yes _ _ AC _ rt rAC (by omega)).mono ?_; rintro e w5 ⟨rfl, hb⟩
        replace hB := bel_stp hB hb
        replace rs := rs.stp hb
        replace rl := rl.stp hb
        replace rm := rm.stp hb
        replace dS := dS.stp hb
        replace rA := rA.stp hb
        replace rC := rC.stp hb
        replace rt := rt.stp hb
        replace rAC := rAC.stp hb
        clear hb
        have c0_dS := dS.cell0; have c1_dS := dS.cell1; have c2_dS := dS.cell2; have c3_dS := dS.cell3; have lt_dS := dS.lt
        go_wp2_with fail
        refine (Some_row s _ _ A A _ (by exact rs) (by exact rA) (by omega) HAA.out).mono ?_; rintro e w6 ⟨a_y, c_y, rfl, ry, hb⟩
        clear c0_dS c1_dS c2_dS c3_dS lt_dS
        replace hB := bel_stp hB hb
        replace rs := rs.stp hb
        replace rl := rl.stp hb
        replace rm := rm.stp hb
        replace dS := dS.stp hb
        replace rA := rA.stp hb
        replace rC := rC.stp hb
        replace rt := rt.stp hb
        replace rAC := rAC.stp hb
        clear hb
        go_wp2_with fail
        refine (Ints_yes _ _ A _ ry rA (by omega)).mono ?_; rintro e w7 ⟨rfl, hb⟩
        replace hB := bel_stp hB hb
        replace rs := rs.stp hb
        replace rl := rl.stp hb
        replace rm := rm.stp hb
        replace dS := dS.stp hb
        replace rA := rA.stp hb
        replace rC := rC.stp hb
        replace rt := rt.stp hb
        replace rAC := rAC.stp hb
        replace ry := ry.stp hb
        clear hb
        go_wp2_with fail
        go_ret
        exact ⟨rfl, hB⟩
end Go.Proofs.Ytpmkinnfbnfmbaa
