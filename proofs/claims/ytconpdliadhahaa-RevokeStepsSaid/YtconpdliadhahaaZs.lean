/-
  The texts Vr Vs Rk in one. (Merged by wip/merge.py.)
-/
import Derived.Test.YtconpdliadhahaaZa
import Derived.Test.YtconpdliadhahaaTp
import Derived.Lib.QuietBelow
import Derived.BigQuiet
import Derived.Deep.RegionWith

section
namespace Go.Proofs.Ytconpdliadhahaa
open Go.RowKit Go.Sort

set_option maxHeartbeats 400000 in
theorem RfSerial_any (n : Int) (w : World) : Calls Try.prog 31 #[.int .i64 n] w fun e w' => e = .returned (.bool (decide (Sm.right n))) ∧ Below w.heap.size w w' := by
  by_cases h0 : 0 ≤ n
  · by_cases h1 : n ≤ 1099511627776
    · go_enter Try.func31, Try.ntmps31
      go_wp2
      go_ret
      exact ⟨ret_bool (decide_eq_true ⟨by omega, by omega⟩).symm, Below.refl _ _⟩
    · go_enter Try.func31, Try.ntmps31
      go_wp2
      go_ret
      exact ⟨ret_bool (decide_eq_false (fun h => by have := h.1; have := h.2; omega)).symm, Below.refl _ _⟩
  · go_enter Try.func31, Try.ntmps31
    go_wp2
    go_ret
    exact ⟨ret_bool (decide_eq_false (fun h => by have := h.1; have := h.2; omega)).symm, Below.refl _ _⟩

/-- The first k are serial numbers that rise. -/
def RisesTo (l : List Int) (k : Nat) : Prop := Rv.rises (l.take k)
theorem risesTo_next {l : List Int} {k : Nat} (hk : k < l.length) (h : RisesTo l k) (hr : Sm.right (l[k]?.getD 0)) (hp : k = 0 ∨ l[k - 1]?.getD 0 < l[k]?.getD 0) : RisesTo l (k + 1) := by
  have e : l.take (k + 1) = l.take k ++ [l[k]?.getD 0] := by
    rw [List.take_add_one, List.getElem?_eq_getElem hk]; rfl
  unfold RisesTo at *
  rw [e]
  refine ⟨fun x hx => ?_, List.pairwise_append.2 ⟨h.2, List.pairwise_singleton _ _, fun x hx y hy => ?_⟩⟩
  · rcases List.mem_append.1 hx with hx | hx
    · exact h.1 x hx
    · rw [List.mem_singleton.1 hx]; exact hr
  · rw [List.mem_singleton.1 hy]
    rcases hp with rfl | hp
    · simp at hx
    · obtain ⟨i, hi, rfl⟩ := List.getElem_of_mem hx
      have hi' : i < k := by simp at hi; omega
      rw [List.getElem_take]
      by_cases hik : i = k - 1
      · subst hik
        rw [List.getElem?_eq_getElem (by omega : k - 1 < l.length)] at hp
        exact hp
      · have h2 := h.2
        have hlt : i < k - 1 := by omega
        have := List.pairwise_iff_getElem.1 h2 i (k - 1) (by simp; omega) (by simp; omega) hlt
        rw [List.getElem_take, List.getElem_take] at this
        rw [List.getElem?_eq_getElem (by omega : k - 1 < l.length)] at hp
        exact Int.lt_trans this hp
theorem rises_mem {l : List Int} {k : Nat} (hk : k < l.length) (h : Rv.rises l) : Sm.right (l[k]?.getD 0) := by
  rw [List.getElem?_eq_getElem hk]; exact h.1 _ (List.getElem_mem hk)
theorem rises_next {l : List Int} {k : Nat} (hk : k < l.length) (h0 : 0 < k) (h : Rv.rises l) : l[k - 1]?.getD 0 < l[k]?.getD 0 := by
  rw [List.getElem?_eq_getElem hk, List.getElem?_eq_getElem (by omega : k - 1 < l.length)]
  exact List.pairwise_iff_getElem.1 h.2 (k - 1) k (by omega) hk (by omega)
set_option maxRecDepth 100000 in
set_option maxHeartbeats 4000000 in
theorem RfRises_any (v : Value) (l : List Int) (w : World) (h : Row .i64 w v l) (hl : l.length ≤ 1000000) :
    Calls Try.prog 34 #[v] w fun e w' => e = .returned (.bool (decide (Rv.rises l))) ∧ Below w.heap.size w w' := by
  obtain ⟨a, cap, rfl⟩ := h.shape l.length rfl
  have H := Lib.hid h
  clear h
  go_enter Try.func34, Try.ntmps34
  go_wp2_with fail
  go_loopw [3] (fun i wr => ∃ k : Nat, k ≤ l.length ∧ i = .int .i64 k ∧ RisesTo l k ∧ Below w.heap.size w wr) (fun i _ => l.length - (intOf i).toNat)
  case atStart => exact ⟨0, Nat.zero_le _, rfl, ⟨by simp, by simp⟩, Below.refl _ _⟩
  case round =>
    obtain ⟨k, hk, rfl, hS, hB⟩ := hrel
    have HS := Lib.hid hS
    clear hS
    have k0 : (0 : Int) ≤ (k : Int) := by omega
    have e1 : IntKind.i64.wrap ((k : Int) + 1) = (k : Int) + 1 := IntWalk.i64_in _ (by omega)
    have hr := H.out.below hB
    by_cases hlt : k < l.length
    · obtain ⟨_, _, e', _, _, _, _, h5⟩ := hr
      cases e'
      obtain ⟨b0, o0, rfl, hb0, hc0⟩ := h5 (by rintro rfl; simp at hlt)
      have hck := hc0 k hlt
      have k1 : (k : Int) < (l.length : Int) := by omega
      obtain ⟨x, hx⟩ : ∃ x, l[k]?.getD 0 = x := ⟨_, rfl⟩
      rw [hx] at hck
      have HX := Lib.hid hx
      by_cases hs : Sm.right x
      · have hd := decide_eq_true hs
        have q_hck := cell_regrown hck
        have q1 : ∀ d os, Calls Try.prog 31 #[.int .i64 x] (grow (redrawn wr d) os) fun e w'' => e = .returned (.bool true) ∧ ∃ p : Regrown, w'' = grow (redrawn wr p.d) p.os := fun d os => Calls.regrown_of ((RfSerial_any x _).mono fun _ _ h => ⟨by rw [h.1, hd], h.2⟩)
        by_cases h0 : k = 0
        · subst h0
          have HK := Lib.hid (risesTo_next hlt HS.out (by rw [hx]; exact hs) (.inl rfl))
          clear h5 hc0 hs hx hd
          have hck2 : wr.cell? ⟨b0, o0, none⟩ = some (.int .i64 x) := by simpa using hck
          have q_hck2 := cell_regrown hck2
          go_wp2_with fail
          refine wp_region_quiet_below (by kernel_rfl) (by kernel_rfl) ?_
          repeat (go_big_quiet_step (first | exact q1 _ _))
          refine wpQuiet_nil ?_
          intro _ hw'
          obtain ⟨⟨dq, osq⟩, hw''⟩ := hw'
          subst hw''
          go_wp2_with fail
          go_roundw
          case rel => exact ⟨0 + 1, by omega, by go_num, HK.out, hB.trans ((below_regrown wr dq osq).mono hB.size)⟩
          case measure => simp [intOf]; omega
        · have kn : decide (0 < k) = true := decide_eq_true (by omega)
          have e2 : IntKind.i64.wrap ((k : Int) - 1) = (k : Int) - 1 := IntWalk.i64_in _ (by omega)
          have k2 : (0 : Int) ≤ (k : Int) - 1 := by omega
          have k3 : (k : Int) - 1 < (l.length : Int) := by omega
          have e3 : ((k : Int) - 1).toNat = k - 1 := by omega
          have hcp := hc0 (k - 1) (by omega)
          obtain ⟨y, hy⟩ : ∃ y, l[k - 1]?.getD 0 = y := ⟨_, rfl⟩
          rw [hy] at hcp
          have q_hcp := cell_regrown hcp
          have HY := Lib.hid hy
          by_cases hxy : y < x
          · have HK := Lib.hid (risesTo_next hlt HS.out (by rw [hx]; exact hs) (.inr (by rw [hx, hy]; exact hxy)))
            have hge : ¬ (x ≤ y) := by omega
            clear h5 hc0 hs hx hy hd h0
            go_wp2_with fail
            refine wp_region_quiet_below (by kernel_rfl) (by kernel_rfl) ?_
            repeat (go_big_quiet_step (first | exact q1 _ _))
            refine wpQuiet_nil ?_
            intro _ hw'
            obtain ⟨⟨dq, osq⟩, hw''⟩ := hw'
            subst hw''
            go_wp2_with fail
            go_roundw
            case rel => exact ⟨k + 1, by omega, by go_num, HK.out, hB.trans ((below_regrown wr dq osq).mono hB.size)⟩
            case measure => simp [intOf]; omega
          · have HN : Hid (¬ Rv.rises l) := Lib.hid (fun h => hxy (by rw [← hx, ← hy]; exact rises_next hlt (by omega) h))
            have hge : x ≤ y := by omega
            clear h5 hc0 hs hx hy hd h0
            go_wp2_with fail
            refine wp_region_quiet_below (by kernel_rfl) (by kernel_rfl) ?_
            repeat (go_big_quiet_step (first | exact q1 _ _))
            refine wpQuiet_nil ?_
            intro _ hw'
            obtain ⟨⟨dq, osq⟩, hw''⟩ := hw'
            subst hw''
            go_wp2_with fail
            go_ret
            exact ⟨ret_bool (decide_eq_false HN.out).symm, hB.trans ((below_regrown wr dq osq).mono hB.size)⟩
      · have hd := decide_eq_false hs
        have q_hck := cell_regrown hck
        have q1 : ∀ d os, Calls Try.prog 31 #[.int .i64 x] (grow (redrawn wr d) os) fun e w'' => e = .returned (.bool false) ∧ ∃ p : Regrown, w'' = grow (redrawn wr p.d) p.os := fun d os => Calls.regrown_of ((RfSerial_any x _).mono fun _ _ h => ⟨by rw [h.1, hd], h.2⟩)
        have HN : Hid (¬ Rv.rises l) := Lib.hid (fun h => hs (by rw [← hx]; exact rises_mem hlt h))
        clear h5 hc0 hs hx hd
        go_wp2_with fail
        refine wp_region_quiet_below (by kernel_rfl) (by kernel_rfl) ?_
        repeat (go_big_quiet_step (first | exact q1 _ _))
        refine wpQuiet_nil ?_
        intro _ hw'
        obtain ⟨⟨dq, osq⟩, hw''⟩ := hw'
        subst hw''
        go_wp2_with fail
        go_ret
        exact ⟨ret_bool (decide_eq_false HN.out).symm, hB.trans ((below_regrown wr dq osq).mono hB.size)⟩
    · obtain rfl : k = l.length := by omega
      have HK : Hid (Rv.rises l) := Lib.hid (by have := HS.out; unfold RisesTo at this; rwa [List.take_length] at this)
      clear hr
      go_wp2_with fail
      go_ret
      exact ⟨ret_bool (decide_eq_true HK.out).symm, hB⟩

theorem RfGone_any (vl vg : Value) (gone : List Int) (n : Int) (w : World) (ll : Nat) (al : Option Addr) (cl : Nat) (hvl : vl = .slice al ll cl) (hg : Row .i64 w vg gone) (hgl : gone.length ≤ 1000000) :
    Calls Try.prog 18 #[.agg #[vl, vg], .int .i64 n] w fun e w' => e = .returned (.bool (decide (n ∈ gone))) ∧ Below w.heap.size w w' := by
  subst hvl
  obtain ⟨ag, cg, rfl⟩ := hg.shape gone.length rfl
  have hC := RHas_any _ gone n _ (hg.alloc (.cells #[.slice al ll cl, .slice ag gone.length cg] 24)) hgl
  obtain ⟨x, hx⟩ : ∃ x, decide (n ∈ gone) = x := ⟨_, rfl⟩
  rw [hx] at hC ⊢
  clear hx hg
  go_enter Try.func18, Try.ntmps18
  go_wp2_with fail
  refine hC.mono ?_; rintro e w1 ⟨rfl, rfl⟩
  go_wp2_with fail
  go_ret
  exact ⟨rfl, (Below.refl _ _).alloc (Nat.le_refl _) _⟩

set_option maxRecDepth 100000 in
set_option maxHeartbeats 4000000 in
theorem RfCheck_any (vl vg : Value) (live gone : List Int) (w : World) (h : Row .i64 w vl live) (hg : Row .i64 w vg gone) (hl : live.length ≤ 1000000) (hgl : gone.length ≤ 1000000) :
    Calls Try.prog 16 #[.agg #[vl, vg]] w fun e w' => e = .returned (.int .i64 (Rv.chk live gone)) ∧ Below w.heap.size w w' := by
  obtain ⟨al, cl, rfl⟩ := h.shape live.length rfl
  obtain ⟨ag, cg, rfl⟩ := hg.shape gone.length rfl
  obtain ⟨B, hB⟩ : ∃ B, w.heap.size = B := ⟨_, rfl⟩
  have q0 := Duo.new w 24 (.slice al live.length cl) (.slice ag gone.length cg)
  rw [hB] at q0
  have hb0 := (Below.refl w.heap.size w).alloc (Nat.le_refl _) (.cells #[.slice al live.length cl, .slice ag gone.length cg] 24)
  have R0 := Lib.hid (h.alloc (.cells #[.slice al live.length cl, .slice ag gone.length cg] 24))
  have S0 := Lib.hid (hg.alloc (.cells #[.slice al live.length cl, .slice ag gone.length cg] 24))
  have HB := Lib.hid hB
  clear h hg hB
  have c0 := q0.cell0; have c1 := q0.cell1
  obtain ⟨x, hx⟩ : ∃ x, decide (Rv.rises live) = x := ⟨_, rfl⟩
  obtain ⟨y, hy⟩ : ∃ y, decide (Rv.rises gone) = y := ⟨_, rfl⟩
  have HX := Lib.hid hx; have HY := Lib.hid hy
  clear hx hy
  cases x with
  | false =>
    have hf : Rv.chk live gone = 1 := by unfold Rv.chk; rw [if_neg (fun h => by have := decide_eq_true h.1; rw [HX.out] at this; cases this)]
    rw [hf]
    clear hf
    go_enter Try.func16, Try.ntmps16
    go_wp2_with fail
    (try rw [HB.out])
    go_wp2_with fail
    refine (RfRises_any _ live _ R0.out hl).mono ?_; rintro e w1 ⟨rfl, hb1⟩
    rw [HX.out]
    have hB1 := hb0.trans (hb1.mono hb0.size)
    clear hb1 c0 c1
    go_wp2_with fail
    go_ret
    exact ⟨rfl, hB1⟩
  | true =>
    cases y with
    | false =>
      have hf : Rv.chk live gone = 1 := by unfold Rv.chk; rw [if_neg (fun h => by have := decide_eq_true h.2.1; rw [HY.out] at this; cases this)]
      rw [hf]
      clear hf
      go_enter Try.func16, Try.ntmps16
      go_wp2_with fail
      (try rw [HB.out])
      go_wp2_with fail
      refine (RfRises_any _ live _ R0.out hl).mono ?_; rintro e w1 ⟨rfl, hb1⟩
      rw [HX.out]
      have hB1 := hb0.trans (hb1.mono hb0.size)
      have q1 := q0.stp hb1
      have R1 := Lib.hid (R0.out.below hb1); have S1 := Lib.hid (S0.out.below hb1)
      clear hb1 c0 c1
      have c0 := q1.cell0; have c1 := q1.cell1
      go_wp2_with fail
      refine (RfRises_any _ gone _ S1.out hgl).mono ?_; rintro e w2 ⟨rfl, hb2⟩
      rw [HY.out]
      have hB2 := hB1.trans (hb2.mono hB1.size)
      clear hb2 c0 c1
      go_wp2_with fail
      go_ret
      exact ⟨rfl, hB2⟩
    | true =>
      go_enter Try.func16, Try.ntmps16
      go_wp2_with fail
      (try rw [HB.out])
      go_wp2_with fail
      refine (RfRises_any _ live _ R0.out hl).mono ?_; rintro e w1 ⟨rfl, hb1⟩
      rw [HX.out]
      have hB1 := hb0.trans (hb1.mono hb0.size)
      have q1 := q0.stp hb1
      have R1 := Lib.hid (R0.out.below hb1); have S1 := Lib.hid (S0.out.below hb1)
      clear hb1 c0 c1
      have c0 := q1.cell0; have c1 := q1.cell1
      go_wp2_with fail
      refine (RfRises_any _ gone _ S1.out hgl).mono ?_; rintro e w2 ⟨rfl, hb2⟩
      rw [HY.out]
      have hB2 := hB1.trans (hb2.mono hB1.size)
      have q2 := q1.stp hb2
      have R2 := Lib.hid (R1.out.below hb2); have S2 := Lib.hid (S1.out.below hb2)
      clear hb2 c0 c1
      have c0 := q2.cell0; have c1 := q2.cell1
      have l1 : Rv.rises live := of_decide_eq_true HX.out
      have l2 : Rv.rises gone := of_decide_eq_true HY.out
      have L1 := Lib.hid l1; have L2 := Lib.hid l2
      clear l1 l2
      go_wp2_with fail
      go_loopw [3] (fun i wr => ∃ k : Nat, i = .int .i64 k ∧ k ≤ gone.length ∧ KnownTo live gone k ∧ Below w2.heap.size w2 wr) (fun i _ => gone.length - (intOf i).toNat)
      case atStart => exact ⟨0, rfl, Nat.zero_le _, fun i hi => absurd hi (Nat.not_lt_zero _), Below.refl _ _⟩
      case round =>
        obtain ⟨k, rfl, hk, hKn, hb⟩ := hrel
        have HK := Lib.hid hKn
        have k0 : (0 : Int) ≤ (k : Int) := by omega
        have e1 : IntKind.i64.wrap ((k : Int) + 1) = (k : Int) + 1 := IntWalk.i64_in _ (by omega)
        have hBr := hB2.trans (hb.mono hB2.size)
        have q3 := q2.stp hb
        clear hKn c0 c1
        have c0 := q3.cell0; have c1 := q3.cell1
        by_cases hlt : k < gone.length
        · obtain ⟨_, _, e', _, _, _, _, h5⟩ := S2.out.below hb
          cases e'
          obtain ⟨bg, og, rfl, hbg, hcg⟩ := h5 (by rintro rfl; simp at hlt)
          have hck := hcg k hlt
          obtain ⟨z, hz⟩ : ∃ z, gone[k]?.getD 0 = z := ⟨_, rfl⟩
          rw [hz] at hck
          have HZ := Lib.hid hz
          have k1 : (k : Int) < (gone.length : Int) := by omega
          have q_c0 := cell_regrown c0; have q_c1 := cell_regrown c1; have q_hck := cell_regrown hck
          clear hcg h5 hz
          by_cases hm : z ∈ live
          · have hd := decide_eq_true hm
            have q1 : ∀ d os, Calls Try.prog 24 #[.slice al live.length cl, .int .i64 z] (grow (redrawn wr d) os) fun e w'' => e = .returned (.bool true) ∧ ∃ p : Regrown, w'' = grow (redrawn wr p.d) p.os := fun d os => Calls.regrown_of ((RHas_any _ live z _ ((R2.out.below hb).below (below_regrown wr d os)) hl).mono fun _ _ h => ⟨by rw [h.1, hd], by rw [← h.2]; exact Below.refl _ _⟩)
            have HM := Lib.hid hm
            clear hm hd
            go_wp2_with fail
            refine wp_region_quiet_below (by kernel_rfl) (by kernel_rfl) ?_
            repeat (go_big_quiet_step (first | exact q1 _ _))
            refine wpQuiet_nil ?_
            intro _ hw'
            obtain ⟨⟨dq, osq⟩, hw''⟩ := hw'
            subst hw''
            go_wp2_with fail
            go_roundw
            case rel =>
              refine ⟨k + 1, by go_num, by omega, fun i hi => ?_, hb.trans ((below_regrown wr dq osq).mono hb.size)⟩
              rcases Nat.lt_or_ge i k with h | h
              · exact HK.out i h
              · obtain rfl : i = k := by omega
                rw [HZ.out]; exact HM.out
            case measure => simp [intOf]; omega
          · have hd := decide_eq_false hm
            have q1 : ∀ d os, Calls Try.prog 24 #[.slice al live.length cl, .int .i64 z] (grow (redrawn wr d) os) fun e w'' => e = .returned (.bool false) ∧ ∃ p : Regrown, w'' = grow (redrawn wr p.d) p.os := fun d os => Calls.regrown_of ((RHas_any _ live z _ ((R2.out.below hb).below (below_regrown wr d os)) hl).mono fun _ _ h => ⟨by rw [h.1, hd], by rw [← h.2]; exact Below.refl _ _⟩)
            have hf : Rv.chk live gone = 1 := by
              unfold Rv.chk
              rw [if_neg]
              intro h
              refine hm (h.2.2 z ?_)
              have := HZ.out
              rw [List.getElem?_eq_getElem hlt] at this
              rw [← this]; exact List.getElem_mem hlt
            have HF := Lib.hid hf
            clear hm hd hf
            go_wp2_with fail
            refine wp_region_quiet_below (by kernel_rfl) (by kernel_rfl) ?_
            repeat (go_big_quiet_step (first | exact q1 _ _))
            refine wpQuiet_nil ?_
            intro _ hw'
            obtain ⟨⟨dq, osq⟩, hw''⟩ := hw'
            subst hw''
            go_wp2_with fail
            go_ret
            rw [HF.out]
            exact ⟨rfl, hBr.trans ((below_regrown wr dq osq).mono hBr.size)⟩
        · obtain rfl : k = gone.length := by omega
          have hfit : Rv.fits live gone := ⟨L1.out, L2.out, known_all HK.out⟩
          by_cases hn : live.length ≤ 256
          · have hf : Rv.chk live gone = 0 := by unfold Rv.chk; rw [if_pos hfit, if_pos hn]
            have HF := Lib.hid hf
            have hn' : (live.length : Int) ≤ 256 := by omega
            clear hfit hf
            go_wp2_with fail
            go_ret
            rw [HF.out]
            exact ⟨rfl, hBr⟩
          · have hf : Rv.chk live gone = 2 := by unfold Rv.chk; rw [if_pos hfit, if_neg hn]
            have HF := Lib.hid hf
            have hn' : ¬ (live.length : Int) ≤ 256 := by omega
            clear hfit hf
            go_wp2_with fail
            go_ret
            rw [HF.out]
            exact ⟨rfl, hBr⟩

theorem Row.cutif {k : IntKind} {w : World} {a : Option Addr} {n cap : Nat} {l : List Int} (h : Row k w (.slice a n cap) l) (m : Nat) (hm : m ≤ l.length) : Row k w (.slice (if cap = m then a else Option.map (fun x => x.add m) a) (n - m) (cap - m)) (l.drop m) := by
  have h' := h
  obtain ⟨a', c', e, hl, -⟩ := h'
  cases e
  by_cases q : cap = m
  · rw [if_pos q, show cap - m = 0 by omega]
    exact h.cut_all m hm (by omega)
  · rw [if_neg q]; exact h.cut m hm (by omega)
theorem pos_lt_at {l : List Int} {n : Int} {k : Nat} (h : k < Rv.pos l n) : l[k]?.getD 0 < n := by
  have hk : k < l.length := Nat.lt_of_lt_of_le h (Rv.pos_le l n)
  rw [List.getElem?_eq_getElem hk]
  refine Rv.take_pos_lt l n _ ?_
  rw [List.mem_take_iff_getElem]
  exact ⟨k, by omega, rfl⟩
theorem pos_stop : ∀ {l : List Int} {n : Int}, Rv.pos l n < l.length → ¬ l[Rv.pos l n]?.getD 0 < n := by
  intro l n
  induction l with
  | nil => intro h; simp at h
  | cons a l ih =>
    intro h
    rw [Rv.pos_cons] at h ⊢
    by_cases ha : a < n
    · rw [if_pos ha] at h ⊢
      simp only [List.length_cons] at h
      simpa using ih (by omega)
    · rw [if_neg ha]; simpa using ha
set_option maxRecDepth 100000 in
set_option maxHeartbeats 4000000 in
theorem RfWith_any (v : Value) (l : List Int) (n : Int) (w : World) (h : Row .i64 w v l) (hl : l.length ≤ 100000) (hn : (Lit.int .i64 n).wf = true) :
    Calls Try.prog 32 #[v, .int .i64 n] w fun e w' => (∃ a c, e = .returned (.slice a (Rv.ins l n).length c) ∧ Row .i64 w' (.slice a (Rv.ins l n).length c) (Rv.ins l n)) ∧ Below w.heap.size w w' := by
  obtain ⟨j0, gi, gz0, gz1, gz2⟩ := info_parts info_i64
  have HWf := Lib.hid h.wf
  have HN := Lib.hid hn
  obtain ⟨a, c, rfl⟩ := h.shape l.length rfl
  have hlc : l.length ≤ c := by obtain ⟨_, _, e', hc, _⟩ := h; cases e'; exact hc
  obtain ⟨p, hp⟩ : ∃ p, Rv.pos l n = p := ⟨_, rfl⟩
  have hpl : p ≤ l.length := by rw [← hp]; exact Rv.pos_le l n
  have RT := Lib.hid (Row.take h p hpl)
  have RD := Lib.hid (Row.cutif h p hpl)
  have H := Lib.hid h; have HP := Lib.hid hp
  clear h hp hn
  by_cases hcp : c = p
  · have RD2 := RD.out
    rw [if_pos hcp] at RD2
    replace RD := Lib.hid RD2
    clear RD2
    have hcp2 := hcp.symm
    subst hcp2
    clear hcp
    go_enter Try.func32, Try.ntmps32
    go_wp2_with fail
    go_loop [5] (fun i => ∃ k : Nat, k ≤ p ∧ i = .int .i64 k) (fun i => p - (intOf i).toNat)
    case atStart => exact ⟨0, Nat.zero_le _, rfl⟩
    case round =>
      obtain ⟨k, hk, rfl⟩ := hrel
      have k0 : (0 : Int) ≤ (k : Int) := by omega
      have e1 : IntKind.i64.wrap ((k : Int) + 1) = (k : Int) + 1 := IntWalk.i64_in _ (by omega)
      have k2 : (k : Int) ≤ (l.length : Int) := by omega
      by_cases hlt : k < p
      · have hkl : k < l.length := by omega
        obtain ⟨_, _, e', _, _, _, _, h5⟩ := H.out
        cases e'
        obtain ⟨b0, o0, rfl, hb0, hc0⟩ := h5 (by rintro rfl; simp at hkl)
        have hck := hc0 k hkl
        have hx := pos_lt_at (l := l) (n := n) (k := k) (by rw [HP.out]; exact hlt)
        obtain ⟨x, hx2⟩ : ∃ x, l[k]?.getD 0 = x := ⟨_, rfl⟩
        rw [hx2] at hck hx
        have k1 : (k : Int) < (l.length : Int) := by omega
        clear hc0 h5 hx2
        go_wp2_with fail
        go_round
        case rel => exact ⟨k + 1, by omega, by go_num⟩
        case measure => simp [intOf]; omega
      · have hkp : p = k := by omega
        subst hkp
        by_cases hp2 : p < l.length
        · exact absurd hp2 (by omega)
        · have k9 : ¬ (p : Int) < (l.length : Int) := by omega
          go_wp2_with (first
            | (at_builtin; (refine wpList_plain rfl fun Kx hKx => ?_; refine wp_append_ints (w0 := w) (.tmp 21) (.tmp 24) 22 rfl 3 j0 (.int .i64 0) Try.underlying22 gi gz0 gz1 gz2 rfl (Below.refl _ _) _ [] rfl ⟨rfl, .inl ⟨rfl, rfl⟩⟩ _ (l.take p) RT.out rfl (by simp; omega) ?_; intro va wa oa ba; refine hKx _ _ ?_))
            | (at_builtin; refine wpList_append_own _ rfl _ _ 22 rfl w.heap.size 3 j0 (.int .i64 0) 1 8 Try.underlying22 gi gz0 gz1 gz2 rfl (by decide) _ _ _ rfl (oa.alloc _) ⟨wa.heap.size, 0, none⟩ 1 1 [.int .i64 n] rfl rfl (cell_one_new _ _ _) (by simp [Value.oneCell']) (by unfold maxLen; simp; omega) (by simp; omega) (by have := ba.size; simp; omega) ?_; intro vb wb ob hgrow _; have bb : Below w.heap.size w wb := (ba.alloc ba.size _).grown hgrow (by have := ba.size; simp; omega) (fun k e => own_above oa (by exact e)); have ob2 : wb.ownsRow w.heap.size 3 1 vb (l.take p ++ [n]).length ((l.take p ++ [n]).map (Value.int .i64)) := by (rw [List.nil_append] at ob; rw [List.length_append, List.map_append]; exact ob))
            | (at_builtin; (refine wpList_plain rfl fun Kx hKx => ?_; refine wp_append_ints (w0 := w) (.tmp 30) (.tmp 33) 22 rfl 3 j0 (.int .i64 0) Try.underlying22 gi gz0 gz1 gz2 rfl bb _ (l.take p ++ [n]) rfl ob2 _ (l.drop p) (by first | exact RD.out | (have h9 := RD.out; simp only [Option.map_some, addr_add] at h9; exact h9) | (have h9 := RD.out; rw [show l.length - p = 0 by omega, show p - p = 0 by omega] at h9; exact h9) | fail) rfl (by simp; omega) ?_; intro vc wc oc bc; refine hKx _ _ ?_))
            | fail)
          have hins : l.take p ++ [n] ++ l.drop p = Rv.ins l n := by unfold Rv.ins; rw [HP.out]; simp
          rw [hins] at oc
          have rc := Row.owned64 oc (fun x hx => by rcases (Rv.mem_ins l n x).1 hx with rfl | hx; exact HN.out; exact HWf.out x hx)
          obtain ⟨a3, c3, rfl⟩ := rc.shape (Rv.ins l n).length rfl
          (try go_wp2_with fail)
          go_ret
          exact ⟨⟨a3, c3, rfl, rc⟩, bc⟩
  · have RD2 := RD.out
    rw [if_neg hcp] at RD2
    replace RD := Lib.hid RD2
    clear RD2
    go_enter Try.func32, Try.ntmps32
    go_wp2_with fail
    go_loop [5] (fun i => ∃ k : Nat, k ≤ p ∧ i = .int .i64 k) (fun i => p - (intOf i).toNat)
    case atStart => exact ⟨0, Nat.zero_le _, rfl⟩
    case round =>
      obtain ⟨k, hk, rfl⟩ := hrel
      have k0 : (0 : Int) ≤ (k : Int) := by omega
      have e1 : IntKind.i64.wrap ((k : Int) + 1) = (k : Int) + 1 := IntWalk.i64_in _ (by omega)
      have k2 : (k : Int) ≤ (l.length : Int) := by omega
      by_cases hlt : k < p
      · have hkl : k < l.length := by omega
        obtain ⟨_, _, e', _, _, _, _, h5⟩ := H.out
        cases e'
        obtain ⟨b0, o0, rfl, hb0, hc0⟩ := h5 (by rintro rfl; simp at hkl)
        have hck := hc0 k hkl
        have hx := pos_lt_at (l := l) (n := n) (k := k) (by rw [HP.out]; exact hlt)
        obtain ⟨x, hx2⟩ : ∃ x, l[k]?.getD 0 = x := ⟨_, rfl⟩
        rw [hx2] at hck hx
        have k1 : (k : Int) < (l.length : Int) := by omega
        clear hc0 h5 hx2
        go_wp2_with fail
        go_round
        case rel => exact ⟨k + 1, by omega, by go_num⟩
        case measure => simp [intOf]; omega
      · have hkp : p = k := by omega
        subst hkp
        by_cases hp2 : p < l.length
        · obtain ⟨_, _, e', _, _, _, _, h5⟩ := H.out
          cases e'
          obtain ⟨b0, o0, rfl, hb0, hc0⟩ := h5 (by rintro rfl; simp at hp2)
          have hck := hc0 p hp2
          have hx := pos_stop (l := l) (n := n) (by rw [HP.out]; exact hp2)
          rw [HP.out] at hx
          obtain ⟨x, hx2⟩ : ∃ x, l[p]?.getD 0 = x := ⟨_, rfl⟩
          rw [hx2] at hck hx
          have k1 : (p : Int) < (l.length : Int) := by omega
          clear hc0 h5 hx2
          go_wp2_with (first
            | (at_builtin; (refine wpList_plain rfl fun Kx hKx => ?_; refine wp_append_ints (w0 := w) (.tmp 21) (.tmp 24) 22 rfl 3 j0 (.int .i64 0) Try.underlying22 gi gz0 gz1 gz2 rfl (Below.refl _ _) _ [] rfl ⟨rfl, .inl ⟨rfl, rfl⟩⟩ _ (l.take p) RT.out rfl (by simp; omega) ?_; intro va wa oa ba; refine hKx _ _ ?_))
            | (at_builtin; refine wpList_append_own _ rfl _ _ 22 rfl w.heap.size 3 j0 (.int .i64 0) 1 8 Try.underlying22 gi gz0 gz1 gz2 rfl (by decide) _ _ _ rfl (oa.alloc _) ⟨wa.heap.size, 0, none⟩ 1 1 [.int .i64 n] rfl rfl (cell_one_new _ _ _) (by simp [Value.oneCell']) (by unfold maxLen; simp; omega) (by simp; omega) (by have := ba.size; simp; omega) ?_; intro vb wb ob hgrow _; have bb : Below w.heap.size w wb := (ba.alloc ba.size _).grown hgrow (by have := ba.size; simp; omega) (fun k e => own_above oa (by exact e)); have ob2 : wb.ownsRow w.heap.size 3 1 vb (l.take p ++ [n]).length ((l.take p ++ [n]).map (Value.int .i64)) := by (rw [List.nil_append] at ob; rw [List.length_append, List.map_append]; exact ob))
            | (at_builtin; (refine wpList_plain rfl fun Kx hKx => ?_; refine wp_append_ints (w0 := w) (.tmp 30) (.tmp 33) 22 rfl 3 j0 (.int .i64 0) Try.underlying22 gi gz0 gz1 gz2 rfl bb _ (l.take p ++ [n]) rfl ob2 _ (l.drop p) (by first | exact RD.out | (have h9 := RD.out; simp only [Option.map_some, addr_add] at h9; exact h9) | (have h9 := RD.out; rw [show l.length - p = 0 by omega, show p - p = 0 by omega] at h9; exact h9) | fail) rfl (by simp; omega) ?_; intro vc wc oc bc; refine hKx _ _ ?_))
            | fail)
          have hins : l.take p ++ [n] ++ l.drop p = Rv.ins l n := by unfold Rv.ins; rw [HP.out]; simp
          rw [hins] at oc
          have rc := Row.owned64 oc (fun x hx => by rcases (Rv.mem_ins l n x).1 hx with rfl | hx; exact HN.out; exact HWf.out x hx)
          obtain ⟨a3, c3, rfl⟩ := rc.shape (Rv.ins l n).length rfl
          (try go_wp2_with fail)
          go_ret
          exact ⟨⟨a3, c3, rfl, rc⟩, bc⟩
        · have k9 : ¬ (p : Int) < (l.length : Int) := by omega
          go_wp2_with (first
            | (at_builtin; (refine wpList_plain rfl fun Kx hKx => ?_; refine wp_append_ints (w0 := w) (.tmp 21) (.tmp 24) 22 rfl 3 j0 (.int .i64 0) Try.underlying22 gi gz0 gz1 gz2 rfl (Below.refl _ _) _ [] rfl ⟨rfl, .inl ⟨rfl, rfl⟩⟩ _ (l.take p) RT.out rfl (by simp; omega) ?_; intro va wa oa ba; refine hKx _ _ ?_))
            | (at_builtin; refine wpList_append_own _ rfl _ _ 22 rfl w.heap.size 3 j0 (.int .i64 0) 1 8 Try.underlying22 gi gz0 gz1 gz2 rfl (by decide) _ _ _ rfl (oa.alloc _) ⟨wa.heap.size, 0, none⟩ 1 1 [.int .i64 n] rfl rfl (cell_one_new _ _ _) (by simp [Value.oneCell']) (by unfold maxLen; simp; omega) (by simp; omega) (by have := ba.size; simp; omega) ?_; intro vb wb ob hgrow _; have bb : Below w.heap.size w wb := (ba.alloc ba.size _).grown hgrow (by have := ba.size; simp; omega) (fun k e => own_above oa (by exact e)); have ob2 : wb.ownsRow w.heap.size 3 1 vb (l.take p ++ [n]).length ((l.take p ++ [n]).map (Value.int .i64)) := by (rw [List.nil_append] at ob; rw [List.length_append, List.map_append]; exact ob))
            | (at_builtin; (refine wpList_plain rfl fun Kx hKx => ?_; refine wp_append_ints (w0 := w) (.tmp 30) (.tmp 33) 22 rfl 3 j0 (.int .i64 0) Try.underlying22 gi gz0 gz1 gz2 rfl bb _ (l.take p ++ [n]) rfl ob2 _ (l.drop p) (by first | exact RD.out | (have h9 := RD.out; simp only [Option.map_some, addr_add] at h9; exact h9) | (have h9 := RD.out; rw [show l.length - p = 0 by omega, show p - p = 0 by omega] at h9; exact h9) | fail) rfl (by simp; omega) ?_; intro vc wc oc bc; refine hKx _ _ ?_))
            | fail)
          have hins : l.take p ++ [n] ++ l.drop p = Rv.ins l n := by unfold Rv.ins; rw [HP.out]; simp
          rw [hins] at oc
          have rc := Row.owned64 oc (fun x hx => by rcases (Rv.mem_ins l n x).1 hx with rfl | hx; exact HN.out; exact HWf.out x hx)
          obtain ⟨a3, c3, rfl⟩ := rc.shape (Rv.ins l n).length rfl
          (try go_wp2_with fail)
          go_ret
          exact ⟨⟨a3, c3, rfl, rc⟩, bc⟩
end Go.Proofs.Ytconpdliadhahaa
end

section
namespace Go.Proofs.Ytconpdliadhahaa
open Go.RowKit

set_option maxRecDepth 100000 in
set_option maxHeartbeats 4000000 in
theorem RfAdd_rv (vl vg : Value) (live gone : List Int) (n : Int) (w : World) (h : Row .i64 w vl live) (hg : Row .i64 w vg gone) (hl : live.length ≤ 1000000) (hgl : gone.length ≤ 1000000) (hn : (Lit.int .i64 n).wf = true) :
    Calls Try.prog 12 #[.agg #[vl, vg], .int .i64 n] w fun e w' => RevsOut w w' e (Rv.addR live gone n) (Rv.addE live gone n) := by
  obtain ⟨al, cl, rfl⟩ := h.shape live.length rfl
  obtain ⟨ag, cg, rfl⟩ := hg.shape gone.length rfl
  obtain ⟨B, hB⟩ : ∃ B, w.heap.size = B := ⟨_, rfl⟩
  have q0 := Duo.new w 24 (.slice al live.length cl) (.slice ag gone.length cg)
  rw [hB] at q0
  have z0 := Duo.new' (w.alloc (.cells #[.slice al live.length cl, .slice ag gone.length cg] 24)) 24 (.slice none 0 0) (.slice none 0 0) (B + 1) (by simp [hB])
  replace q0 := q0.alloc (.cells #[.slice none 0 0, .slice none 0 0] 24)
  have hb0 := ((Below.refl w.heap.size w).alloc (Nat.le_refl _) (.cells #[.slice al live.length cl, .slice ag gone.length cg] 24)).alloc (by simp) (.cells #[.slice none 0 0, .slice none 0 0] 24)
  have r0 := (h.alloc (.cells #[.slice al live.length cl, .slice ag gone.length cg] 24)).alloc (.cells #[.slice none 0 0, .slice none 0 0] 24)
  have s0 := (hg.alloc (.cells #[.slice al live.length cl, .slice ag gone.length cg] 24)).alloc (.cells #[.slice none 0 0, .slice none 0 0] 24)
  have HB := Lib.hid hB
  have R0 := Lib.hid r0; have S0 := Lib.hid s0
  clear h hg r0 s0 hB
  have c0 := q0.cell0; have c1 := q0.cell1
  by_cases hO : Rv.okay live gone
  · have HO := Lib.hid hO; have hck := Rv.chk_okay hO; have HC := Lib.hid hck; clear hck
    by_cases hr : Sm.right n
    · have HR := Lib.hid hr
      by_cases hm : n ∈ live
      · have HM := Lib.hid hm
        have hF1 : Rv.addE live gone n = 221 := by unfold Rv.addE; rw [if_pos hO, if_pos hr, if_pos hm]
        have hF2 : Rv.addR live gone n = ([], []) := by unfold Rv.addR; rw [hF1, if_neg (by decide)]
        have HF1 := Lib.hid hF1; have HF2 := Lib.hid hF2
        clear hF1 hF2
        clear hO hr hm
        go_enter Try.func12, Try.ntmps12
        go_wp2_with fail
        (try rw [HB.out])
        go_wp2_with fail
        refine (RfCheck_any _ _ live gone _ R0.out S0.out hl hgl).mono ?_; rintro e w1 ⟨rfl, hb1⟩
        rw [HC.out]
        have hB1 := hb0.trans (hb1.mono hb0.size)
        have q1 := q0.stp hb1
        have z1 := z0.stp hb1
        have R1 := Lib.hid (R0.out.below hb1); have S1 := Lib.hid (S0.out.below hb1)
        clear hb1 c0 c1
        have c0 := q1.cell0; have c1 := q1.cell1; have ltB := q1.lt; have ltZ := z1.lt
        go_wp2_with fail
        refine (RfSerial_any n _).mono ?_; rintro e w2 ⟨rfl, hb⟩
        rw [decide_eq_true HR.out]
        have hB2 := hB1.trans (hb.mono hB1.size)
        have q2 := q1.stp hb; have z2 := z1.stp hb
        have R2 := Lib.hid (R1.out.below hb); have S2 := Lib.hid (S1.out.below hb)
        clear hb c0 c1 ltB ltZ
        have c0 := q2.cell0; have c1 := q2.cell1; have ltB := q2.lt; have ltZ := z2.lt
        go_wp2_with fail
        refine (RHas_any _ live n _ R2.out hl).mono ?_; rintro e w' ⟨rfl, rfl⟩
        rw [decide_eq_true HM.out]
        have f0 := z2.free 0; have f1 := z2.free 1; have d0 := z2.cell0; have d1 := z2.cell1
        go_wp2_with fail
        have hzz := (z2.set0 (.slice none 0 0)).set1 (.slice none 0 0)
        refine bodyPost_ret (revs_ret rfl rfl hzz) rfl ?_
        rw [HF1.out, HF2.out]
        exact RevsOut.nil ((hB2.setCell (by rw [HB.out]; simp) _).setCell (by rw [HB.out]; simp) _)
      · have HM := Lib.hid hm
        by_cases h256 : live.length = 256
        · have h256' : (256 : Int) ≤ (live.length : Int) := by omega
          have hF1 : Rv.addE live gone n = 2 := by unfold Rv.addE; rw [if_pos hO, if_pos hr, if_neg hm, if_pos h256]
          have hF2 : Rv.addR live gone n = ([], []) := by unfold Rv.addR; rw [hF1, if_neg (by decide)]
          have HF1 := Lib.hid hF1; have HF2 := Lib.hid hF2
          clear hF1 hF2
          clear hO hr hm h256
          go_enter Try.func12, Try.ntmps12
          go_wp2_with fail
          (try rw [HB.out])
          go_wp2_with fail
          refine (RfCheck_any _ _ live gone _ R0.out S0.out hl hgl).mono ?_; rintro e w1 ⟨rfl, hb1⟩
          rw [HC.out]
          have hB1 := hb0.trans (hb1.mono hb0.size)
          have q1 := q0.stp hb1
          have z1 := z0.stp hb1
          have R1 := Lib.hid (R0.out.below hb1); have S1 := Lib.hid (S0.out.below hb1)
          clear hb1 c0 c1
          have c0 := q1.cell0; have c1 := q1.cell1; have ltB := q1.lt; have ltZ := z1.lt
          go_wp2_with fail
          refine (RfSerial_any n _).mono ?_; rintro e w2 ⟨rfl, hb⟩
          rw [decide_eq_true HR.out]
          have hB2 := hB1.trans (hb.mono hB1.size)
          have q2 := q1.stp hb; have z2 := z1.stp hb
          have R2 := Lib.hid (R1.out.below hb); have S2 := Lib.hid (S1.out.below hb)
          clear hb c0 c1 ltB ltZ
          have c0 := q2.cell0; have c1 := q2.cell1; have ltB := q2.lt; have ltZ := z2.lt
          go_wp2_with fail
          refine (RHas_any _ live n _ R2.out hl).mono ?_; rintro e w' ⟨rfl, rfl⟩
          rw [decide_eq_false HM.out]
          have f0 := z2.free 0; have f1 := z2.free 1; have d0 := z2.cell0; have d1 := z2.cell1
          go_wp2_with fail
          have hzz := (z2.set0 (.slice none 0 0)).set1 (.slice none 0 0)
          refine bodyPost_ret (revs_ret rfl rfl hzz) rfl ?_
          rw [HF1.out, HF2.out]
          exact RevsOut.nil ((hB2.setCell (by rw [HB.out]; simp) _).setCell (by rw [HB.out]; simp) _)
        · have h256' : ¬ (256 : Int) ≤ (live.length : Int) := by have := hO.2; omega
          have hF1 : Rv.addE live gone n = 0 := (Rv.addE_zero _ _ _).2 ⟨hO, hr, hm, h256⟩
          have hF2 : Rv.addR live gone n = (Rv.ins live n, gone) := by unfold Rv.addR; rw [if_pos hF1]
          have HF1 := Lib.hid hF1; have HF2 := Lib.hid hF2
          have hle := hO.2
          clear hF1 hF2 hO hr hm h256
          go_enter Try.func12, Try.ntmps12
          go_wp2_with fail
          (try rw [HB.out])
          go_wp2_with fail
          refine (RfCheck_any _ _ live gone _ R0.out S0.out hl hgl).mono ?_; rintro e w1 ⟨rfl, hb1⟩
          rw [HC.out]
          have hB1 := hb0.trans (hb1.mono hb0.size)
          have q1 := q0.stp hb1
          have z1 := z0.stp hb1
          have R1 := Lib.hid (R0.out.below hb1); have S1 := Lib.hid (S0.out.below hb1)
          clear hb1 c0 c1
          have c0 := q1.cell0; have c1 := q1.cell1; have ltB := q1.lt; have ltZ := z1.lt
          go_wp2_with fail
          refine (RfSerial_any n _).mono ?_; rintro e w2 ⟨rfl, hb⟩
          rw [decide_eq_true HR.out]
          have hB2 := hB1.trans (hb.mono hB1.size)
          have q2 := q1.stp hb; have z2 := z1.stp hb
          have R2 := Lib.hid (R1.out.below hb); have S2 := Lib.hid (S1.out.below hb)
          clear hb c0 c1 ltB ltZ
          have c0 := q2.cell0; have c1 := q2.cell1; have ltB := q2.lt; have ltZ := z2.lt
          go_wp2_with fail
          refine (RHas_any _ live n _ R2.out hl).mono ?_; rintro e w' ⟨rfl, rfl⟩
          rw [decide_eq_false HM.out]
          have f0 := z2.free 0; have f1 := z2.free 1; have d0 := z2.cell0; have d1 := z2.cell1
          have hW := fun W (hr : Row .i64 W (.slice al live.length cl) live) => RfWith_any _ live n W hr (by omega) hn
          obtain ⟨L, hL⟩ : ∃ L, Rv.ins live n = L := ⟨_, rfl⟩
          rw [hL] at hW
          have HL := Lib.hid hL; clear hL
          have HWW := Lib.hid hW; clear hW
          go_wp2_with fail
          go_region_with (go_at_call 32; refine (HWW.out _ (by first | exact R2.out | exact R2.out.drew)).mono ?_; rintro e w3 ⟨⟨a3, c3, rfl, r3⟩, hb⟩; have qx := (Duo.drew q2).stp hb; have zx := (Duo.drew z2).stp hb; have x2 := (S2.out.drew).below hb; have hBx := (bel_drew hB2).trans (hb.mono (bel_drew hB2).size); have x0 := qx.cell0; have x1 := qx.cell1; have x3 := zx.free 0; have x4 := zx.free 1; have x5 := zx.cell0; have x6 := zx.cell1; have x7 := zx.lt)
          all_goals
            (try go_wp2_with fail)
            have hzz := (zx.set0 (.slice a3 L.length c3)).set1 (.slice ag gone.length cg)
            have o3 := r3.off_duo zx
            have o2 := x2.off_duo zx
            refine bodyPost_ret (revs_ret rfl rfl hzz) rfl ?_
            rw [HF1.out, HF2.out, HL.out]
            refine ⟨⟨_, _, _, _, rfl, ?_, ?_⟩, (hBx.setCell (by rw [HB.out]; simp) _).setCell (by rw [HB.out]; simp) _⟩
            · exact (r3.aside (p := ⟨B + 1, 0, none⟩) o3 _).aside (p := ⟨B + 1, 1, none⟩) o3 _
            · exact (x2.aside (p := ⟨B + 1, 0, none⟩) o2 _).aside (p := ⟨B + 1, 1, none⟩) o2 _
    · have HR := Lib.hid hr
      have hF1 : Rv.addE live gone n = 1 := by unfold Rv.addE; rw [if_pos hO, if_neg hr]
      have hF2 : Rv.addR live gone n = ([], []) := by unfold Rv.addR; rw [hF1, if_neg (by decide)]
      have HF1 := Lib.hid hF1; have HF2 := Lib.hid hF2
      clear hF1 hF2
      clear hO hr
      go_enter Try.func12, Try.ntmps12
      go_wp2_with fail
      (try rw [HB.out])
      go_wp2_with fail
      refine (RfCheck_any _ _ live gone _ R0.out S0.out hl hgl).mono ?_; rintro e w1 ⟨rfl, hb1⟩
      rw [HC.out]
      have hB1 := hb0.trans (hb1.mono hb0.size)
      have q1 := q0.stp hb1
      have z1 := z0.stp hb1
      have R1 := Lib.hid (R0.out.below hb1); have S1 := Lib.hid (S0.out.below hb1)
      clear hb1 c0 c1
      have c0 := q1.cell0; have c1 := q1.cell1; have ltB := q1.lt; have ltZ := z1.lt
      go_wp2_with fail
      refine (RfSerial_any n _).mono ?_; rintro e w2 ⟨rfl, hb⟩
      rw [decide_eq_false HR.out]
      have hB2 := hB1.trans (hb.mono hB1.size)
      have q2 := q1.stp hb; have z2 := z1.stp hb
      have R2 := Lib.hid (R1.out.below hb); have S2 := Lib.hid (S1.out.below hb)
      clear hb c0 c1 ltB ltZ
      have c0 := q2.cell0; have c1 := q2.cell1; have ltB := q2.lt; have ltZ := z2.lt
      have f0 := z2.free 0; have f1 := z2.free 1; have d0 := z2.cell0; have d1 := z2.cell1
      go_wp2_with fail
      have hzz := (z2.set0 (.slice none 0 0)).set1 (.slice none 0 0)
      refine bodyPost_ret (revs_ret rfl rfl hzz) rfl ?_
      rw [HF1.out, HF2.out]
      exact RevsOut.nil ((hB2.setCell (by rw [HB.out]; simp) _).setCell (by rw [HB.out]; simp) _)
  · have hck := Rv.chk_not hO
    have hF1 : Rv.addE live gone n = Rv.chk live gone := by unfold Rv.addE; rw [if_neg hO]
    have hF2 : Rv.addR live gone n = ([], []) := by unfold Rv.addR; rw [hF1, if_neg hck]
    obtain ⟨cc, hcc⟩ : ∃ cc, Rv.chk live gone = cc := ⟨_, rfl⟩
    rw [hcc] at hck hF1
    have HF1 := Lib.hid hF1; have HF2 := Lib.hid hF2; have HC := Lib.hid hcc
    clear hO hF1 hF2 hcc
    go_enter Try.func12, Try.ntmps12
    go_wp2_with fail
    (try rw [HB.out])
    go_wp2_with fail
    refine (RfCheck_any _ _ live gone _ R0.out S0.out hl hgl).mono ?_; rintro e w1 ⟨rfl, hb1⟩
    rw [HC.out]
    have hB1 := hb0.trans (hb1.mono hb0.size)
    have q1 := q0.stp hb1
    have z1 := z0.stp hb1
    have R1 := Lib.hid (R0.out.below hb1); have S1 := Lib.hid (S0.out.below hb1)
    clear hb1 c0 c1
    have c0 := q1.cell0; have c1 := q1.cell1; have ltB := q1.lt; have ltZ := z1.lt
    have f0 := z1.free 0; have f1 := z1.free 1; have d0 := z1.cell0; have d1 := z1.cell1
    go_wp2_with fail
    have hzz := (z1.set0 (.slice none 0 0)).set1 (.slice none 0 0)
    refine bodyPost_ret (revs_ret rfl rfl hzz) rfl ?_
    rw [HF1.out, HF2.out]
    exact RevsOut.nil ((hB1.setCell (by rw [HB.out]; simp) _).setCell (by rw [HB.out]; simp) _)

set_option maxRecDepth 100000 in
set_option maxHeartbeats 4000000 in
theorem RfRevoke_rv (vl vg : Value) (live gone : List Int) (n : Int) (w : World) (h : Row .i64 w vl live) (hg : Row .i64 w vg gone) (hl : live.length ≤ 1000000) (hgl : gone.length ≤ 1000000) (hn : (Lit.int .i64 n).wf = true) :
    Calls Try.prog 14 #[.agg #[vl, vg], .int .i64 n] w fun e w' => RevsOut w w' e (Rv.revR live gone n) (Rv.revE live gone n) := by
  obtain ⟨al, cl, rfl⟩ := h.shape live.length rfl
  obtain ⟨ag, cg, rfl⟩ := hg.shape gone.length rfl
  obtain ⟨B, hB⟩ : ∃ B, w.heap.size = B := ⟨_, rfl⟩
  have q0 := Duo.new w 24 (.slice al live.length cl) (.slice ag gone.length cg)
  rw [hB] at q0
  have z0 := Duo.new' (w.alloc (.cells #[.slice al live.length cl, .slice ag gone.length cg] 24)) 24 (.slice none 0 0) (.slice none 0 0) (B + 1) (by simp [hB])
  replace q0 := q0.alloc (.cells #[.slice none 0 0, .slice none 0 0] 24)
  have hb0 := ((Below.refl w.heap.size w).alloc (Nat.le_refl _) (.cells #[.slice al live.length cl, .slice ag gone.length cg] 24)).alloc (by simp) (.cells #[.slice none 0 0, .slice none 0 0] 24)
  have r0 := (h.alloc (.cells #[.slice al live.length cl, .slice ag gone.length cg] 24)).alloc (.cells #[.slice none 0 0, .slice none 0 0] 24)
  have s0 := (hg.alloc (.cells #[.slice al live.length cl, .slice ag gone.length cg] 24)).alloc (.cells #[.slice none 0 0, .slice none 0 0] 24)
  have HB := Lib.hid hB
  have R0 := Lib.hid r0; have S0 := Lib.hid s0
  clear h hg r0 s0 hB
  have c0 := q0.cell0; have c1 := q0.cell1
  by_cases hO : Rv.okay live gone
  · have HO := Lib.hid hO; have hck := Rv.chk_okay hO; have HC := Lib.hid hck; clear hck
    by_cases hm : n ∈ live
    · have HM := Lib.hid hm
      by_cases hk : n ∈ gone
      · have HK := Lib.hid hk
        have hF1 : Rv.revE live gone n = 270 := by unfold Rv.revE; rw [if_pos hO, if_pos hm, if_pos hk]
        have hF2 : Rv.revR live gone n = ([], []) := by unfold Rv.revR; rw [hF1, if_neg (by decide)]
        have HF1 := Lib.hid hF1; have HF2 := Lib.hid hF2
        clear hF1 hF2
        clear hO hm hk
        go_enter Try.func14, Try.ntmps14
        go_wp2_with fail
        (try rw [HB.out])
        go_wp2_with fail
        refine (RfCheck_any _ _ live gone _ R0.out S0.out hl hgl).mono ?_; rintro e w1 ⟨rfl, hb1⟩
        rw [HC.out]
        have hB1 := hb0.trans (hb1.mono hb0.size)
        have q1 := q0.stp hb1
        have z1 := z0.stp hb1
        have R1 := Lib.hid (R0.out.below hb1); have S1 := Lib.hid (S0.out.below hb1)
        clear hb1 c0 c1
        have c0 := q1.cell0; have c1 := q1.cell1; have ltB := q1.lt; have ltZ := z1.lt
        go_wp2_with fail
        refine (RHas_any _ live n _ R1.out hl).mono ?_; rintro e w' ⟨rfl, rfl⟩
        rw [decide_eq_true HM.out]
        go_wp2_with fail
        refine (RHas_any _ gone n _ S1.out hgl).mono ?_; rintro e w' ⟨rfl, rfl⟩
        rw [decide_eq_true HK.out]
        have f0 := z1.free 0; have f1 := z1.free 1; have d0 := z1.cell0; have d1 := z1.cell1
        go_wp2_with fail
        have hzz := (z1.set0 (.slice none 0 0)).set1 (.slice none 0 0)
        refine bodyPost_ret (revs_ret rfl rfl hzz) rfl ?_
        rw [HF1.out, HF2.out]
        exact RevsOut.nil ((hB1.setCell (by rw [HB.out]; simp) _).setCell (by rw [HB.out]; simp) _)
      · have HK := Lib.hid hk
        have hF1 : Rv.revE live gone n = 0 := (Rv.revE_zero _ _ _).2 ⟨hO, hm, hk⟩
        have hF2 : Rv.revR live gone n = (live, Rv.ins gone n) := by unfold Rv.revR; rw [if_pos hF1]
        have HF1 := Lib.hid hF1; have HF2 := Lib.hid hF2
        have hle : gone.length ≤ 256 := Rv.gone_le hO
        clear hF1 hF2 hO hm hk
        go_enter Try.func14, Try.ntmps14
        go_wp2_with fail
        (try rw [HB.out])
        go_wp2_with fail
        refine (RfCheck_any _ _ live gone _ R0.out S0.out hl hgl).mono ?_; rintro e w1 ⟨rfl, hb1⟩
        rw [HC.out]
        have hB1 := hb0.trans (hb1.mono hb0.size)
        have q1 := q0.stp hb1
        have z1 := z0.stp hb1
        have R1 := Lib.hid (R0.out.below hb1); have S1 := Lib.hid (S0.out.below hb1)
        clear hb1 c0 c1
        have c0 := q1.cell0; have c1 := q1.cell1; have ltB := q1.lt; have ltZ := z1.lt
        go_wp2_with fail
        refine (RHas_any _ live n _ R1.out hl).mono ?_; rintro e w' ⟨rfl, rfl⟩
        rw [decide_eq_true HM.out]
        go_wp2_with fail
        refine (RHas_any _ gone n _ S1.out hgl).mono ?_; rintro e w' ⟨rfl, rfl⟩
        rw [decide_eq_false HK.out]
        have f0 := z1.free 0; have f1 := z1.free 1; have d0 := z1.cell0; have d1 := z1.cell1
        have hW := fun W (hr : Row .i64 W (.slice ag gone.length cg) gone) => RfWith_any _ gone n W hr (by omega) hn
        obtain ⟨L, hL⟩ : ∃ L, Rv.ins gone n = L := ⟨_, rfl⟩
        rw [hL] at hW
        have HL := Lib.hid hL; clear hL
        have HWW := Lib.hid hW; clear hW
        go_wp2_with fail
        go_region_with (go_at_call 32; refine (HWW.out _ (by first | exact S1.out | exact S1.out.drew)).mono ?_; rintro e w2 ⟨⟨a3, c3, rfl, r3⟩, hb⟩; have qx := (Duo.drew q1).stp hb; have zx := (Duo.drew z1).stp hb; have x2 := (R1.out.drew).below hb; have hBx := (bel_drew hB1).trans (hb.mono (bel_drew hB1).size); have x0 := qx.cell0; have x1 := qx.cell1; have x3 := zx.free 0; have x4 := zx.free 1; have x5 := zx.cell0; have x6 := zx.cell1; have x7 := zx.lt)
        all_goals
          (try go_wp2_with fail)
          have hzz := (zx.set0 (.slice al live.length cl)).set1 (.slice a3 L.length c3)
          have o3 := r3.off_duo zx
          have o2 := x2.off_duo zx
          refine bodyPost_ret (revs_ret rfl rfl hzz) rfl ?_
          rw [HF1.out, HF2.out, HL.out]
          refine ⟨⟨_, _, _, _, rfl, ?_, ?_⟩, (hBx.setCell (by rw [HB.out]; simp) _).setCell (by rw [HB.out]; simp) _⟩
          · exact (x2.aside (p := ⟨B + 1, 0, none⟩) o2 _).aside (p := ⟨B + 1, 1, none⟩) o2 _
          · exact (r3.aside (p := ⟨B + 1, 0, none⟩) o3 _).aside (p := ⟨B + 1, 1, none⟩) o3 _
    · have HM := Lib.hid hm
      have hF1 : Rv.revE live gone n = 131 := by unfold Rv.revE; rw [if_pos hO, if_neg hm]
      have hF2 : Rv.revR live gone n = ([], []) := by unfold Rv.revR; rw [hF1, if_neg (by decide)]
      have HF1 := Lib.hid hF1; have HF2 := Lib.hid hF2
      clear hF1 hF2
      clear hO hm
      go_enter Try.func14, Try.ntmps14
      go_wp2_with fail
      (try rw [HB.out])
      go_wp2_with fail
      refine (RfCheck_any _ _ live gone _ R0.out S0.out hl hgl).mono ?_; rintro e w1 ⟨rfl, hb1⟩
      rw [HC.out]
      have hB1 := hb0.trans (hb1.mono hb0.size)
      have q1 := q0.stp hb1
      have z1 := z0.stp hb1
      have R1 := Lib.hid (R0.out.below hb1); have S1 := Lib.hid (S0.out.below hb1)
      clear hb1 c0 c1
      have c0 := q1.cell0; have c1 := q1.cell1; have ltB := q1.lt; have ltZ := z1.lt
      go_wp2_with fail
      refine (RHas_any _ live n _ R1.out hl).mono ?_; rintro e w' ⟨rfl, rfl⟩
      rw [decide_eq_false HM.out]
      have f0 := z1.free 0; have f1 := z1.free 1; have d0 := z1.cell0; have d1 := z1.cell1
      go_wp2_with fail
      have hzz := (z1.set0 (.slice none 0 0)).set1 (.slice none 0 0)
      refine bodyPost_ret (revs_ret rfl rfl hzz) rfl ?_
      rw [HF1.out, HF2.out]
      exact RevsOut.nil ((hB1.setCell (by rw [HB.out]; simp) _).setCell (by rw [HB.out]; simp) _)
  · have hck := Rv.chk_not hO
    have hF1 : Rv.revE live gone n = Rv.chk live gone := by unfold Rv.revE; rw [if_neg hO]
    have hF2 : Rv.revR live gone n = ([], []) := by unfold Rv.revR; rw [hF1, if_neg hck]
    obtain ⟨cc, hcc⟩ : ∃ cc, Rv.chk live gone = cc := ⟨_, rfl⟩
    rw [hcc] at hck hF1
    have HF1 := Lib.hid hF1; have HF2 := Lib.hid hF2; have HC := Lib.hid hcc
    clear hO hF1 hF2 hcc
    go_enter Try.func14, Try.ntmps14
    go_wp2_with fail
    (try rw [HB.out])
    go_wp2_with fail
    refine (RfCheck_any _ _ live gone _ R0.out S0.out hl hgl).mono ?_; rintro e w1 ⟨rfl, hb1⟩
    rw [HC.out]
    have hB1 := hb0.trans (hb1.mono hb0.size)
    have q1 := q0.stp hb1
    have z1 := z0.stp hb1
    have R1 := Lib.hid (R0.out.below hb1); have S1 := Lib.hid (S0.out.below hb1)
    clear hb1 c0 c1
    have c0 := q1.cell0; have c1 := q1.cell1; have ltB := q1.lt; have ltZ := z1.lt
    have f0 := z1.free 0; have f1 := z1.free 1; have d0 := z1.cell0; have d1 := z1.cell1
    go_wp2_with fail
    have hzz := (z1.set0 (.slice none 0 0)).set1 (.slice none 0 0)
    refine bodyPost_ret (revs_ret rfl rfl hzz) rfl ?_
    rw [HF1.out, HF2.out]
    exact RevsOut.nil ((hB1.setCell (by rw [HB.out]; simp) _).setCell (by rw [HB.out]; simp) _)
theorem RfAdd_is (vl vg : Value) (live gone : List Int) (n : Int) (E : Int) (L G : List Int) (x y : Nat) (w : World) (h : Row .i64 w vl live) (hg : Row .i64 w vg gone) (hl : live.length ≤ 1000000) (hgl : gone.length ≤ 1000000) (hn : (Lit.int .i64 n).wf = true)
    (hE : Rv.addE live gone n = E) (hL : Rv.addR live gone n = (L, G)) (hx : L.length = x) (hy : G.length = y) :
    Calls Try.prog 12 #[.agg #[vl, vg], .int .i64 n] w fun e w' => (∃ a1 c1 a2 c2, e = .returned (.tuple #[.agg #[.slice a1 x c1, .slice a2 y c2], .int .i64 E]) ∧ Row .i64 w' (.slice a1 x c1) L ∧ Row .i64 w' (.slice a2 y c2) G) ∧ Below w.heap.size w w' := by
  have := RfAdd_rv vl vg live gone n w h hg hl hgl hn
  rw [hE, hL] at this
  unfold RevsOut at this
  simp only [hx, hy] at this
  exact this
theorem RfRev_is (vl vg : Value) (live gone : List Int) (n : Int) (E : Int) (L G : List Int) (x y : Nat) (w : World) (h : Row .i64 w vl live) (hg : Row .i64 w vg gone) (hl : live.length ≤ 1000000) (hgl : gone.length ≤ 1000000) (hn : (Lit.int .i64 n).wf = true)
    (hE : Rv.revE live gone n = E) (hL : Rv.revR live gone n = (L, G)) (hx : L.length = x) (hy : G.length = y) :
    Calls Try.prog 14 #[.agg #[vl, vg], .int .i64 n] w fun e w' => (∃ a1 c1 a2 c2, e = .returned (.tuple #[.agg #[.slice a1 x c1, .slice a2 y c2], .int .i64 E]) ∧ Row .i64 w' (.slice a1 x c1) L ∧ Row .i64 w' (.slice a2 y c2) G) ∧ Below w.heap.size w w' := by
  have := RfRevoke_rv vl vg live gone n w h hg hl hgl hn
  rw [hE, hL] at this
  unfold RevsOut at this
  simp only [hx, hy] at this
  exact this
end Go.Proofs.Ytconpdliadhahaa
end

section
namespace Go.Proofs.Ytconpdliadhahaa
open Go.RowKit Go.Sort

set_option maxRecDepth 100000 in
set_option maxHeartbeats 8000000 in
theorem RevokeSteps_any (v : Value) (x : List Int × List Int) (n : Int) (w : World) (h : RvV w v x) (k1 : (Lit.int .i64 n).wf = true) :
    Calls Try.prog 3 #[v, .int .i64 n] w fun e w' => e = .returned (.bool true) ∧ Below w.heap.size w w' := by
  have K1 := Lib.hid k1
  clear k1
  obtain ⟨live, gone, al, cl, ag, cg, rfl, rl, rg⟩ := h.parts
  clear h
  have hB := Below.refl w.heap.size w
  go_enter Try.func3, Try.ntmps3
  have bR := Duo.new w 24 (.slice al live.length cl) (.slice ag gone.length cg)
  go_wp2_with fail
  refine (live27_true _).mono ?_; rintro e w1 ⟨rfl, hb⟩
  replace hB := bel_stp (bel_alloc hB _) hb
  replace rl := (rl.alloc _).stp hb
  replace rg := (rg.alloc _).stp hb
  replace bR := bR.stp hb
  clear hb
  have c0_bR := bR.cell0
  have c1_bR := bR.cell1
  have lt_bR := bR.lt
  obtain ⟨fw, hfw⟩ : ∃ b, (decide (live.length ≤ 300) && decide (gone.length ≤ 300)) = b := ⟨_, rfl⟩
  have HFw := Lib.hid hfw
  clear hfw
  go_wp2_with fail
  refine (RFew_any live.length gone.length al ag cl cg _).mono ?_; rintro e w2 ⟨rfl, hb⟩
  clear c0_bR c1_bR lt_bR
  replace hB := bel_stp hB hb
  replace rl := rl.stp hb
  replace rg := rg.stp hb
  replace bR := bR.stp hb
  clear hb
  rw [HFw.out]
  cases fw
  case false =>
    have c0_bR := bR.cell0
    have c1_bR := bR.cell1
    have lt_bR := bR.lt
    go_wp2_with fail
    go_ret
    exact ⟨rfl, hB⟩
  obtain ⟨n1, n2⟩ : live.length ≤ 300 ∧ gone.length ≤ 300 := by have := HFw.out; simpa using this
  clear HFw
  obtain ⟨E, h1⟩ : ∃ E, Rv.addE live gone n = E := ⟨_, rfl⟩
  have h4 := Rv.addR_len live gone n
  obtain ⟨P1, h2⟩ : ∃ P, (Rv.addR live gone n).1 = P := ⟨_, rfl⟩
  obtain ⟨P2, h3⟩ : ∃ P, (Rv.addR live gone n).2 = P := ⟨_, rfl⟩
  rw [h2, h3] at h4
  obtain ⟨lP1, lP2⟩ := h4
  have HPE : Hid (Rv.addR live gone n = (P1, P2)) := Lib.hid (by rw [← h2, ← h3])
  have HEE := Lib.hid h1
  clear h1 h2 h3
  have bP1 : P1.length ≤ 301 := by omega
  have bP2 : P2.length ≤ 301 := by omega
  clear lP1 lP2
  obtain ⟨F, h1⟩ : ∃ E, Rv.revE live gone n = E := ⟨_, rfl⟩
  have h4 := Rv.revR_len live gone n
  obtain ⟨Q1, h2⟩ : ∃ P, (Rv.revR live gone n).1 = P := ⟨_, rfl⟩
  obtain ⟨Q2, h3⟩ : ∃ P, (Rv.revR live gone n).2 = P := ⟨_, rfl⟩
  rw [h2, h3] at h4
  obtain ⟨lQ1, lQ2⟩ := h4
  have HPF : Hid (Rv.revR live gone n = (Q1, Q2)) := Lib.hid (by rw [← h2, ← h3])
  have HEF := Lib.hid h1
  clear h1 h2 h3
  have bQ1 : Q1.length ≤ 301 := by omega
  have bQ2 : Q2.length ≤ 301 := by omega
  clear lQ1 lQ2
  have c0_bR := bR.cell0
  have c1_bR := bR.cell1
  have lt_bR := bR.lt
  go_wp2_with fail
  refine (Add_is _ _ live gone n E P1 P2 _ _ _ rl rg (by omega) (by omega) K1.out HEE.out HPE.out rfl rfl).mono ?_; rintro e w3 ⟨⟨a3, c3, a4, c4, rfl, x3, x4⟩, hb⟩
  clear c0_bR c1_bR lt_bR
  replace hB := bel_stp hB hb
  replace rl := rl.stp hb
  replace rg := rg.stp hb
  replace bR := bR.stp hb
  clear hb
  have bA := Duo.new w3 24 (.slice a3 P1.length c3) (.slice a4 P2.length c4)
  have c0_bR := bR.cell0
  have c1_bR := bR.cell1
  have lt_bR := bR.lt
  go_wp2_with fail
  refine (RfAdd_is _ _ live gone n E P1 P2 _ _ _ (rl.alloc _) (rg.alloc _) (by omega) (by omega) K1.out HEE.out HPE.out rfl rfl).mono ?_; rintro e w4 ⟨⟨a5, c5, a6, c6, rfl, x5, x6⟩, hb⟩
  clear c0_bR c1_bR lt_bR
  replace hB := bel_stp (bel_alloc hB _) hb
  replace rl := (rl.alloc _).stp hb
  replace rg := (rg.alloc _).stp hb
  replace bR := (bR.alloc _).stp hb
  replace x3 := (x3.alloc _).stp hb
  replace x4 := (x4.alloc _).stp hb
  replace bA := bA.stp hb
  clear hb
  have bB := Duo.new w4 24 (.slice a5 P1.length c5) (.slice a6 P2.length c6)
  have c0_bR := bR.cell0
  have c1_bR := bR.cell1
  have lt_bR := bR.lt
  go_wp2_with fail
  refine (Rev_is _ _ live gone n F Q1 Q2 _ _ _ (rl.alloc _) (rg.alloc _) (by omega) (by omega) K1.out HEF.out HPF.out rfl rfl).mono ?_; rintro e w5 ⟨⟨a7, c7, a8, c8, rfl, x7, x8⟩, hb⟩
  clear c0_bR c1_bR lt_bR
  replace hB := bel_stp (bel_alloc hB _) hb
  replace rl := (rl.alloc _).stp hb
  replace rg := (rg.alloc _).stp hb
  replace bR := (bR.alloc _).stp hb
  replace x3 := (x3.alloc _).stp hb
  replace x4 := (x4.alloc _).stp hb
  replace bA := (bA.alloc _).stp hb
  replace x5 := (x5.alloc _).stp hb
  replace x6 := (x6.alloc _).stp hb
  replace bB := bB.stp hb
  clear hb
  have bC := Duo.new w5 24 (.slice a7 Q1.length c7) (.slice a8 Q2.length c8)
  have c0_bR := bR.cell0
  have c1_bR := bR.cell1
  have lt_bR := bR.lt
  go_wp2_with fail
  refine (RfRev_is _ _ live gone n F Q1 Q2 _ _ _ (rl.alloc _) (rg.alloc _) (by omega) (by omega) K1.out HEF.out HPF.out rfl rfl).mono ?_; rintro e w6 ⟨⟨a9, c9, a10, c10, rfl, x9, x10⟩, hb⟩
  clear c0_bR c1_bR lt_bR
  replace hB := bel_stp (bel_alloc hB _) hb
  replace rl := (rl.alloc _).stp hb
  replace rg := (rg.alloc _).stp hb
  replace bR := (bR.alloc _).stp hb
  replace x3 := (x3.alloc _).stp hb
  replace x4 := (x4.alloc _).stp hb
  replace bA := (bA.alloc _).stp hb
  replace x5 := (x5.alloc _).stp hb
  replace x6 := (x6.alloc _).stp hb
  replace bB := (bB.alloc _).stp hb
  replace x7 := (x7.alloc _).stp hb
  replace x8 := (x8.alloc _).stp hb
  replace bC := bC.stp hb
  clear hb
  have bD := Duo.new w6 24 (.slice a9 Q1.length c9) (.slice a10 Q2.length c10)
  replace hB := bel_alloc hB (.cells #[(.slice a9 Q1.length c9), (.slice a10 Q2.length c10)] 24)
  replace rl := rl.alloc (.cells #[(.slice a9 Q1.length c9), (.slice a10 Q2.length c10)] 24)
  replace rg := rg.alloc (.cells #[(.slice a9 Q1.length c9), (.slice a10 Q2.length c10)] 24)
  replace bR := bR.alloc (.cells #[(.slice a9 Q1.length c9), (.slice a10 Q2.length c10)] 24)
  replace x3 := x3.alloc (.cells #[(.slice a9 Q1.length c9), (.slice a10 Q2.length c10)] 24)
  replace x4 := x4.alloc (.cells #[(.slice a9 Q1.length c9), (.slice a10 Q2.length c10)] 24)
  replace bA := bA.alloc (.cells #[(.slice a9 Q1.length c9), (.slice a10 Q2.length c10)] 24)
  replace x5 := x5.alloc (.cells #[(.slice a9 Q1.length c9), (.slice a10 Q2.length c10)] 24)
  replace x6 := x6.alloc (.cells #[(.slice a9 Q1.length c9), (.slice a10 Q2.length c10)] 24)
  replace bB := bB.alloc (.cells #[(.slice a9 Q1.length c9), (.slice a10 Q2.length c10)] 24)
  replace x7 := x7.alloc (.cells #[(.slice a9 Q1.length c9), (.slice a10 Q2.length c10)] 24)
  replace x8 := x8.alloc (.cells #[(.slice a9 Q1.length c9), (.slice a10 Q2.length c10)] 24)
  replace bC := bC.alloc (.cells #[(.slice a9 Q1.length c9), (.slice a10 Q2.length c10)] 24)
  replace x9 := x9.alloc (.cells #[(.slice a9 Q1.length c9), (.slice a10 Q2.length c10)] 24)
  replace x10 := x10.alloc (.cells #[(.slice a9 Q1.length c9), (.slice a10 Q2.length c10)] 24)
  obtain ⟨V, hV⟩ : ∃ V, World.alloc w6 (.cells #[(.slice a9 Q1.length c9), (.slice a10 Q2.length c10)] 24) = V := ⟨_, rfl⟩
  rw [hV] at hB rl rg bR x3 x4 bA x5 x6 bB x7 x8 bC x9 x10 bD
  obtain ⟨E0, hE0⟩ : ∃ E, Rv.chk live gone = E := ⟨_, rfl⟩
  have HE0 := Lib.hid hE0
  obtain ⟨y, hy⟩ : ∃ y, decide (n ∈ gone) = y := ⟨_, rfl⟩
  have HY := Lib.hid hy
  clear hE0 hy
  have c0_bR := bR.cell0
  have c1_bR := bR.cell1
  have lt_bR := bR.lt
  have c0_bA := bA.cell0
  have c1_bA := bA.cell1
  have lt_bA := bA.lt
  have c0_bB := bB.cell0
  have c1_bB := bB.cell1
  have lt_bB := bB.lt
  have c0_bC := bC.cell0
  have c1_bC := bC.cell1
  have lt_bC := bC.lt
  have c0_bD := bD.cell0
  have c1_bD := bD.cell1
  have lt_bD := bD.lt
  have q_c0_bR := cell_regrown c0_bR
  have q_c1_bR := cell_regrown c1_bR
  have q_c0_bA := cell_regrown c0_bA
  have q_c1_bA := cell_regrown c1_bA
  have q_c0_bB := cell_regrown c0_bB
  have q_c1_bB := cell_regrown c1_bB
  have q_c0_bC := cell_regrown c0_bC
  have q_c1_bC := cell_regrown c1_bC
  have q_c0_bD := cell_regrown c0_bD
  have q_c1_bD := cell_regrown c1_bD
  have q1 : ∀ d os, Calls Try.prog 15 #[.agg #[.slice al live.length cl, .slice ag gone.length cg]] (grow (redrawn V d) os) fun e w'' => e = .returned (.int .i64 E0) ∧ ∃ p : Regrown, w'' = grow (redrawn V p.d) p.os := fun d os => Calls.regrown_of (by have bw := below_regrown V d os; exact (RCheck_any _ _ live gone _ (rl.below bw) (rg.below bw) (by omega) (by omega)).mono (fun _ _ h => ⟨by rw [h.1, HE0.out], h.2⟩))
  have q2 : ∀ d os, Calls Try.prog 16 #[.agg #[.slice al live.length cl, .slice ag gone.length cg]] (grow (redrawn V d) os) fun e w'' => e = .returned (.int .i64 E0) ∧ ∃ p : Regrown, w'' = grow (redrawn V p.d) p.os := fun d os => Calls.regrown_of (by have bw := below_regrown V d os; exact (RfCheck_any _ _ live gone _ (rl.below bw) (rg.below bw) (by omega) (by omega)).mono (fun _ _ h => ⟨by rw [h.1, HE0.out], h.2⟩))
  have q3 : ∀ d os, Calls Try.prog 17 #[.agg #[.slice al live.length cl, .slice ag gone.length cg], .int .i64 n] (grow (redrawn V d) os) fun e w'' => e = .returned (.bool y) ∧ ∃ p : Regrown, w'' = grow (redrawn V p.d) p.os := fun d os => Calls.regrown_of (by have bw := below_regrown V d os; exact (RGone_any _ _ gone n _ live.length _ _ rfl (rg.below bw) (by omega)).mono (fun _ _ h => ⟨by rw [h.1, HY.out], h.2⟩))
  have q4 : ∀ d os, Calls Try.prog 18 #[.agg #[.slice al live.length cl, .slice ag gone.length cg], .int .i64 n] (grow (redrawn V d) os) fun e w'' => e = .returned (.bool y) ∧ ∃ p : Regrown, w'' = grow (redrawn V p.d) p.os := fun d os => Calls.regrown_of (by have bw := below_regrown V d os; exact (RfGone_any _ _ gone n _ live.length _ _ rfl (rg.below bw) (by omega)).mono (fun _ _ h => ⟨by rw [h.1, HY.out], h.2⟩))
  have q5 : ∀ d os, Calls Try.prog 19 #[.agg #[.slice a3 P1.length c3, .slice a4 P2.length c4], .agg #[.slice a5 P1.length c5, .slice a6 P2.length c6]] (grow (redrawn V d) os) fun e w'' => e = .returned (.bool true) ∧ ∃ p : Regrown, w'' = grow (redrawn V p.d) p.os := fun d os => Calls.regrown_of (by have bw := below_regrown V d os; exact (RSame_any _ _ _ _ P1 P2 P1 P2 _ (x3.below bw) (x4.below bw) (x5.below bw) (x6.below bw) (by omega) (by omega) (by omega) (by omega)).mono (fun _ _ h => ⟨by rw [h.1, decide_eq_true (rfl : P1 = P1), decide_eq_true (rfl : P2 = P2)]; rfl, h.2⟩))
  have q6 : ∀ d os, Calls Try.prog 19 #[.agg #[.slice a7 Q1.length c7, .slice a8 Q2.length c8], .agg #[.slice a9 Q1.length c9, .slice a10 Q2.length c10]] (grow (redrawn V d) os) fun e w'' => e = .returned (.bool true) ∧ ∃ p : Regrown, w'' = grow (redrawn V p.d) p.os := fun d os => Calls.regrown_of (by have bw := below_regrown V d os; exact (RSame_any _ _ _ _ Q1 Q2 Q1 Q2 _ (x7.below bw) (x8.below bw) (x9.below bw) (x10.below bw) (by omega) (by omega) (by omega) (by omega)).mono (fun _ _ h => ⟨by rw [h.1, decide_eq_true (rfl : Q1 = Q1), decide_eq_true (rfl : Q2 = Q2)]; rfl, h.2⟩))
  go_wp2_with fail
  (try rw [hV])
  refine wp_region_quiet_below (by kernel_rfl) (by kernel_rfl) ?_
  repeat (go_big_quiet_step (first | with_reducible exact q1 _ _ | with_reducible exact q2 _ _ | with_reducible exact q3 _ _ | with_reducible exact q4 _ _ | with_reducible exact q5 _ _ | with_reducible exact q6 _ _))
  refine wpQuiet_nil ?_
  intro _ hw'
  obtain ⟨⟨dq, osq⟩, hw''⟩ := hw'
  subst hw''
  go_wp2_with fail
  go_ret
  exact ⟨rfl, hB.trans ((below_regrown V dq osq).mono hB.size)⟩
end Go.Proofs.Ytconpdliadhahaa
end
