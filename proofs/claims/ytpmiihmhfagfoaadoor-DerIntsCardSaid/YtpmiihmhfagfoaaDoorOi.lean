/-
  The walk of DerInts: numbers in and out; the bytes are as few as hold it.
-/
import Derived.Test.YtpmiihmhfagfoaaDoorEy
import Derived.Test.YtpmiihmhfagfoaaDoorEi
import Derived.Test.YtpmiihmhfagfoaaDoorEa
import Derived.Deep.CutBlock
import Derived.Deep.DeepCutAuto
import Derived.Test.YtpmiihmhfagfoaaDoorYr
namespace Go.Proofs.YtpmiihmhfagfoaaDoor
open Go.RowKit Go.Sort

theorem i64_bounds' {n : Int} (h : (Lit.int .i64 n).wf = true) : -9223372036854775808 ≤ n ∧ n ≤ 9223372036854775807 := by
  simp [Lit.wf, IntKind.min, IntKind.max, IntKind.bits, IntKind.signed] at h
  omega
theorem wt_int (a : Int) (h : -9223372036854775808 ≤ a ∧ a ≤ 9223372036854775807) : Dm.wt (.mk 2 (intB a) []) ≤ 10 := by
  have := least_len (least_intB a h.1 h.2)
  rw [Dm.wt_eq]
  show 2 + (intB a).length + Dm.wts [] ≤ 10
  simp only [Dm.wts]; omega
theorem wt_more (a p : Int) (h : -9223372036854775808 ≤ a ∧ a ≤ 9223372036854775807) : Dm.wt (.mk 2 (p :: intB a) []) ≤ 11 := by
  have := least_len (least_intB a h.1 h.2)
  rw [Dm.wt_eq]
  show 2 + (p :: intB a).length + Dm.wts [] ≤ 11
  simp only [Dm.wts, List.length_cons]; omega
theorem AsInt_ok (a : Int) (h : -9223372036854775808 ≤ a ∧ a ≤ 9223372036854775807) (vb : Value) (w : World) (hk : KindsAt w) (hp : ItP w vb (.slice none 0 0) (.mk 2 (intB a) [])) :
    Calls Tryd.prog 21 #[.agg #[.int .i64 2, vb, .slice none 0 0]] w fun e w' => e = .returned (.tuple #[.int .i64 a, .int .i64 0]) ∧ Below w.heap.size w w' :=
  (AsInt_any (.mk 2 (intB a) []) _ _ w hk hp (by have := wt_int a h; omega)).mono fun e w' ⟨⟨v, he, hv⟩, hb⟩ => by
    have e0 : asE (.mk 2 (intB a) []) 2 = 0 := by rw [asE_may (show (Dm.It.mk 2 (intB a) []).tag = 2 from rfl), if_pos (int_may a h.1 h.2)]
    rw [e0] at he hv
    rw [if_pos rfl] at hv
    have hv' : v = .int .i64 (numI (intB a)) := hv
    rw [numI_intB a h.1 h.2] at hv'
    subst hv'
    exact ⟨he, hb⟩
theorem AsInt_more (a p : Int) (h : -9223372036854775808 ≤ a ∧ a ≤ 9223372036854775807) (hpp : p = if a < 0 then 255 else 0) (vb : Value) (w : World) (hk : KindsAt w) (hp : ItP w vb (.slice none 0 0) (.mk 2 (p :: intB a) [])) :
    Calls Tryd.prog 21 #[.agg #[.int .i64 2, vb, .slice none 0 0]] w fun e w' => e = .returned (.tuple #[.int .i64 0, .int .i64 71]) ∧ Below w.heap.size w w' :=
  (AsInt_any (.mk 2 (p :: intB a) []) _ _ w hk hp (by have := wt_more a p h; omega)).mono fun e w' ⟨⟨v, he, hv⟩, hb⟩ => by
    have e0 : asE (.mk 2 (p :: intB a) []) 2 = 71 := by rw [asE_may (show (Dm.It.mk 2 (p :: intB a) []).tag = 2 from rfl), more_may a p h.1 h.2 hpp]; rfl
    rw [e0] at he hv
    rw [if_neg (by decide)] at hv
    subst hv
    exact ⟨he, hb⟩

theorem Put_more (a p : Int) (h : -9223372036854775808 ≤ a ∧ a ≤ 9223372036854775807) (hpp : p = if a < 0 then 255 else 0) (vb : Value) (w : World) (hk : KindsAt w) (hp : ItP w vb (.slice none 0 0) (.mk 2 (p :: intB a) [])) :
    Calls Tryd.prog 14 #[.agg #[.int .i64 2, vb, .slice none 0 0]] w fun e w' => e = .returned (.tuple #[.slice none 0 0, .int .i64 1]) ∧ Below w.heap.size w w' :=
  (Put_any (.mk 2 (p :: intB a) []) (by have := wt_more a p h; omega) _ _ w hk hp).mono fun e w' ⟨hP, hb⟩ => by
    unfold Putted at hP
    rw [more_may a p h.1 h.2 hpp, if_neg (by decide)] at hP
    exact ⟨hP, hb⟩

theorem Same_ints (a b : Int) (D : Bool) (hD : (a == b) = D) (ha : -9223372036854775808 ≤ a ∧ a ≤ 9223372036854775807) (hb : -9223372036854775808 ≤ b ∧ b ≤ 9223372036854775807) (vb ub : Value) (w : World) (hp : ItP w vb (.slice none 0 0) (.mk 2 (intB a) [])) (hq : ItP w ub (.slice none 0 0) (.mk 2 (intB b) [])) :
    Calls Tryd.prog 19 #[.agg #[.int .i64 2, vb, .slice none 0 0], .agg #[.int .i64 2, ub, .slice none 0 0]] w fun e w' => e = .returned (.bool D) ∧ Below w.heap.size w w' := by
  have h := Same_any (.mk 2 (intB a) []) (.mk 2 (intB b) []) w _ _ _ _ hp hq
  have e : Dm.eqIt (.mk 2 (intB a) []) (.mk 2 (intB b) []) = D := by
    rw [← hD]
    by_cases hab : a = b
    · subst hab; rw [(Dm.eqIt_iff _ _).2 rfl]; simp
    · have h1 : Dm.eqIt (.mk 2 (intB a) []) (.mk 2 (intB b) []) = false := by
        apply Bool.eq_false_iff.2
        intro h2
        have h3 := (Dm.eqIt_iff _ _).1 h2
        injection h3 with _ h4 _
        exact hab (intB_inj ha hb h4)
      rw [h1]; exact (beq_eq_false_iff_ne.2 hab).symm
  rw [e] at h
  exact h

set_option maxRecDepth 100000 in
set_option maxHeartbeats 1000000 in
theorem DerInts_any (a b : Int) (c : Bool) (w : World) (hk : KindsAt w) (ha : (Lit.int .i64 a).wf = true) (hb : (Lit.int .i64 b).wf = true) :
    Calls Tryd.prog 8 #[.int .i64 a, .int .i64 b, .bool c] w fun e w' => e = .returned (.bool true) ∧ Below w.heap.size w w' := by
  have hA := i64_bounds' ha
  have hBb := i64_bounds' hb
  obtain ⟨na, hna⟩ : ∃ n, (intB a).length = n := ⟨_, rfl⟩
  have hls := least_len (least_intB a hA.1 hA.2)
  rw [hna] at hls
  have hC1 := live07_true w hk
  have HK := Lib.hid hk; have HA := Lib.hid hA; have HBb := Lib.hid hBb; have HNA := Lib.hid hna; have HLS := Lib.hid hls
  clear hk ha hb hA hBb hna hls
  go_enter Tryd.func8, Tryd.ntmps8
  go_wp2_with fail
  refine hC1.mono ?_; rintro e w1 ⟨rfl, hb⟩
  have HB1 := Lib.hid hb
  clear hC1 hb
  have hC := Int_any a w1
  rw [HNA.out] at hC
  go_wp2_with fail
  refine hC.mono ?_; rintro e w2 ⟨⟨a5, c5, rfl, o5⟩, hb⟩
  have hB := HB1.out.trans (hb.mono HB1.out.size)
  have q0 := Trip.new w2 25 (.int .i64 2) (.slice a5 na c5) (.slice none 0 0)
  have hb3 := hB.alloc hB.size (.cells #[.int .i64 2, .slice a5 na c5, .slice none 0 0] 25)
  have p5 := o5.it.alloc (.cells #[.int .i64 2, .slice a5 na c5, .slice none 0 0] 25)
  have hC2 := AsInt_ok a HA.out (.slice a5 na c5) _ (HK.out.below hb3) p5
  have HB3 := Lib.hid hb3; have P5 := Lib.hid p5; have Q0 := Lib.hid q0
  clear hC hb hB q0 hb3 p5 o5
  go_wp2_with fail
  refine hC2.mono ?_; rintro e w3 ⟨rfl, hb⟩
  have hB3 := HB3.out.trans (hb.mono HB3.out.size)
  have q3 := trip_stp Q0.out hb
  have c0 := q3.cell0; have c1 := q3.cell1; have c2 := q3.cell2
  have p5 := P5.out.below hb
  have HB4 := Lib.hid hB3; have P6 := Lib.hid p5; have Q3 := Lib.hid q3
  clear hC2 hb hB3 p5 q3
  go_upto_region 5 with fail
  obtain ⟨D, hD⟩ : ∃ D, (a == b) = D := ⟨_, rfl⟩
  have HD := Lib.hid hD
  have hc0 : ∀ W, Below w3.heap.size w3 W → W.cell? ⟨w2.heap.size, 0, none⟩ = some (.int .i64 2) := fun W h => (h.cell (p := ⟨w2.heap.size, 0, none⟩) Q3.out.lt).trans c0
  have hc1 : ∀ W, Below w3.heap.size w3 W → W.cell? ⟨w2.heap.size, 1, none⟩ = some (.slice a5 na c5) := fun W h => (h.cell (p := ⟨w2.heap.size, 1, none⟩) Q3.out.lt).trans c1
  have hc2 : ∀ W, Below w3.heap.size w3 W → W.cell? ⟨w2.heap.size, 2, none⟩ = some (.slice none 0 0) := fun W h => (h.cell (p := ⟨w2.heap.size, 2, none⟩) Q3.out.lt).trans c2
  clear c0 c1 c2 hD
  have g1 : decide ((na : Int) < 1) = false := decide_eq_false (by have := HLS.out.1; omega)
  have g8 : decide ((8 : Int) < (na : Int)) = false := decide_eq_false (by have := HLS.out.2; omega)
  have hGr : ∀ w : World, Below w.heap.size w w := fun w => Below.refl _ w
  refine Rely.wp_region_rely (fun w => Below w3.heap.size w3 w) (fun w w' => Below w.heap.size w w') (fun k v w => (match ([some (.int .i64 0), some (.bool false), some (.bool false), some (.int .i64 a), some (.int .i64 a), some (.bool false), some (.bool false), some (.bool false), some (.pointer (some ⟨w2.heap.size, 1, none⟩)), some (.slice a5 na c5), some (.int .i64 (na : Int)), some (.bool false), some (.bool false), some (.bool false), some (.pointer (some ⟨w2.heap.size, 1, none⟩)), some (.slice a5 na c5), some (.int .i64 (na : Int)), some (.bool false), some (.bool false), some (.bool false), some (.agg #[.int .i64 2, .slice a5 na c5, .slice none 0 0]), some (.int .i64 b), none, some (.bool D), some (.int .i64 a), some (.int .i64 b), some (.bool D), some (.bool false), some (.bool false)] : List (Option Value))[k]? with | some (some u) => v = u | _ => True) ∧ (k = 22 → ∃ a6 c6, v = .agg #[.int .i64 2, .slice a6 (intB b).length c6, .slice none 0 0] ∧ ItP w (.slice a6 (intB b).length c6) (.slice none 0 0) (.mk 2 (intB b) []))) (by kernel_rfl) (by decide) (by kernel_rfl) (by kernel_rfl) ?_ ?_ ?_ ?_
  · exact (Below.refl _ _).drew
  · intro k v w w' _ _ hG h; exact ⟨h.1, fun e => by obtain ⟨a6, c6, hv, hp⟩ := h.2 e; exact ⟨a6, c6, hv, hp.below hG⟩⟩
  · refine Rely.allOb_cons (Rely.ob_plain rfl (fun ac ρ hc hg hf w hC hold dep K Q hK => ?_)) ?_
    · -- slot 25: Op.move t9
      have e9 : ρ (.tmp 9) = .int .i64 0 := hold 9 (by decide)
      refine Rely.upon_move _ rfl ?_
      exact hK _ _ hC (hGr _) ⟨e9, fun h => by cases h⟩
    refine Rely.allOb_cons (Rely.ob_plain rfl (fun ac ρ hc hg hf w hC hold dep K Q hK => ?_)) ?_
    · -- slot 26: Op.binOp BinOp.neq 28 t25 (const (0:i64)) 28
      have e25 : ρ (.tmp 25) = .int .i64 0 := (dep 0 (by decide) (by decide)).1
      simp [go_sem, hc, e25]
      exact hK _ _ hC (hGr _) ⟨rfl, fun h => by cases h⟩
    refine Rely.allOb_cons (Rely.ob_plain rfl (fun ac ρ hc hg hf w hC hold dep K Q hK => ?_)) ?_
    · -- slot 27: Op.move t26
      have e26 : ρ (.tmp 26) = .bool false := (dep 1 (by decide) (by decide)).1
      refine Rely.upon_move _ rfl ?_
      exact hK _ _ hC (hGr _) ⟨e26, fun h => by cases h⟩
    refine Rely.allOb_cons (Rely.ob_want 2 false rfl (by decide) (by decide) (fun _ _ h => h.1) (fun ac ρ hc hg hf w hC hold dep K Q hK => ?_)) ?_
    · -- slot 28: Op.move t8
      have e8 : ρ (.tmp 8) = .int .i64 a := hold 8 (by decide)
      refine Rely.upon_move _ rfl ?_
      exact hK _ _ hC (hGr _) ⟨e8, fun h => by cases h⟩
    refine Rely.allOb_cons (Rely.ob_want 2 false rfl (by decide) (by decide) (fun _ _ h => h.1) (fun ac ρ hc hg hf w hC hold dep K Q hK => ?_)) ?_
    · -- slot 29: Op.move t0
      have e0 : ρ (.tmp 0) = .int .i64 a := hold 0 (by decide)
      refine Rely.upon_move _ rfl ?_
      exact hK _ _ hC (hGr _) ⟨e0, fun h => by cases h⟩
    refine Rely.allOb_cons (Rely.ob_want 2 false rfl (by decide) (by decide) (fun _ _ h => h.1) (fun ac ρ hc hg hf w hC hold dep K Q hK => ?_)) ?_
    · -- slot 30: Op.binOp BinOp.neq 3 t28 t29 3
      have e28 : ρ (.tmp 28) = .int .i64 a := (dep 3 (by decide) (by decide)).1
      have e29 : ρ (.tmp 29) = .int .i64 a := (dep 4 (by decide) (by decide)).1
      simp [go_sem, e28, e29]
      exact hK _ _ hC (hGr _) ⟨rfl, fun h => by cases h⟩
    refine Rely.allOb_cons (Rely.ob_plain rfl (fun ac ρ hc hg hf w hC hold dep K Q hK => ?_)) ?_
    · -- slot 31: Op.pick t27 (const (Value.bool true)) t30
      have e27 : ρ (.tmp 27) = .bool false := (dep 2 (by decide) (by decide)).1
      have e30 : ρ (.tmp 30) = .bool false := (dep 5 (by decide) (by decide)).1
      simp [go_sem, hc, e27, e30]
      exact hK _ _ hC (hGr _) ⟨rfl, fun h => by cases h⟩
    refine Rely.allOb_cons (Rely.ob_plain rfl (fun ac ρ hc hg hf w hC hold dep K Q hK => ?_)) ?_
    · -- slot 32: Op.move t31
      have e31 : ρ (.tmp 31) = .bool false := (dep 6 (by decide) (by decide)).1
      refine Rely.upon_move _ rfl ?_
      exact hK _ _ hC (hGr _) ⟨e31, fun h => by cases h⟩
    refine Rely.allOb_cons (Rely.ob_want 7 false rfl (by decide) (by decide) (fun _ _ h => h.1) (fun ac ρ hc hg hf w hC hold dep K Q hK => ?_)) ?_
    · -- slot 33: Op.fieldAddr 25 t7 1
      have e7 : ρ (.tmp 7) = .pointer (some ⟨w2.heap.size, 0, none⟩) := hold 7 (by decide)
      simp [go_sem, e7]
      exact hK _ _ hC (hGr _) ⟨rfl, fun h => by cases h⟩
    refine Rely.allOb_cons (Rely.ob_want 7 false rfl (by decide) (by decide) (fun _ _ h => h.1) (fun ac ρ hc hg hf w hC hold dep K Q hK => ?_)) ?_
    · -- slot 34: Op.load 22 t33
      have e33 : ρ (.tmp 33) = .pointer (some ⟨w2.heap.size, 1, none⟩) := (dep 8 (by decide) (by decide)).1
      simp [go_sem, e33, hc1 _ hC]
      exact hK _ _ hC (hGr _) ⟨rfl, fun h => by cases h⟩
    refine Rely.allOb_cons (Rely.ob_want 7 false rfl (by decide) (by decide) (fun _ _ h => h.1) (fun ac ρ hc hg hf w hC hold dep K Q hK => ?_)) ?_
    · -- slot 35: Op.call { builtin len, args := #[t34], argTypes := #[22] }
      have e34 : ρ (.tmp 34) = .slice a5 na c5 := (dep 9 (by decide) (by decide)).1
      simp [go_sem, e34]
      exact hK _ _ hC (hGr _) ⟨rfl, fun h => by cases h⟩
    refine Rely.allOb_cons (Rely.ob_want 7 false rfl (by decide) (by decide) (fun _ _ h => h.1) (fun ac ρ hc hg hf w hC hold dep K Q hK => ?_)) ?_
    · -- slot 36: Op.binOp BinOp.lss 3 t35 (const (1:i64)) 3
      have e35 : ρ (.tmp 35) = .int .i64 (na : Int) := (dep 10 (by decide) (by decide)).1
      simp [go_sem, hc, e35, g1]
      exact hK _ _ hC (hGr _) ⟨rfl, fun h => by cases h⟩
    refine Rely.allOb_cons (Rely.ob_plain rfl (fun ac ρ hc hg hf w hC hold dep K Q hK => ?_)) ?_
    · -- slot 37: Op.pick t32 (const (Value.bool true)) t36
      have e32 : ρ (.tmp 32) = .bool false := (dep 7 (by decide) (by decide)).1
      have e36 : ρ (.tmp 36) = .bool false := (dep 11 (by decide) (by decide)).1
      simp [go_sem, hc, e32, e36]
      exact hK _ _ hC (hGr _) ⟨rfl, fun h => by cases h⟩
    refine Rely.allOb_cons (Rely.ob_plain rfl (fun ac ρ hc hg hf w hC hold dep K Q hK => ?_)) ?_
    · -- slot 38: Op.move t37
      have e37 : ρ (.tmp 37) = .bool false := (dep 12 (by decide) (by decide)).1
      refine Rely.upon_move _ rfl ?_
      exact hK _ _ hC (hGr _) ⟨e37, fun h => by cases h⟩
    refine Rely.allOb_cons (Rely.ob_want 13 false rfl (by decide) (by decide) (fun _ _ h => h.1) (fun ac ρ hc hg hf w hC hold dep K Q hK => ?_)) ?_
    · -- slot 39: Op.fieldAddr 25 t7 1
      have e7 : ρ (.tmp 7) = .pointer (some ⟨w2.heap.size, 0, none⟩) := hold 7 (by decide)
      simp [go_sem, e7]
      exact hK _ _ hC (hGr _) ⟨rfl, fun h => by cases h⟩
    refine Rely.allOb_cons (Rely.ob_want 13 false rfl (by decide) (by decide) (fun _ _ h => h.1) (fun ac ρ hc hg hf w hC hold dep K Q hK => ?_)) ?_
    · -- slot 40: Op.load 22 t39
      have e39 : ρ (.tmp 39) = .pointer (some ⟨w2.heap.size, 1, none⟩) := (dep 14 (by decide) (by decide)).1
      simp [go_sem, e39, hc1 _ hC]
      exact hK _ _ hC (hGr _) ⟨rfl, fun h => by cases h⟩
    refine Rely.allOb_cons (Rely.ob_want 13 false rfl (by decide) (by decide) (fun _ _ h => h.1) (fun ac ρ hc hg hf w hC hold dep K Q hK => ?_)) ?_
    · -- slot 41: Op.call { builtin len, args := #[t40], argTypes := #[22] }
      have e40 : ρ (.tmp 40) = .slice a5 na c5 := (dep 15 (by decide) (by decide)).1
      simp [go_sem, e40]
      exact hK _ _ hC (hGr _) ⟨rfl, fun h => by cases h⟩
    refine Rely.allOb_cons (Rely.ob_want 13 false rfl (by decide) (by decide) (fun _ _ h => h.1) (fun ac ρ hc hg hf w hC hold dep K Q hK => ?_)) ?_
    · -- slot 42: Op.binOp BinOp.gtr 3 t41 (const (8:i64)) 3
      have e41 : ρ (.tmp 41) = .int .i64 (na : Int) := (dep 16 (by decide) (by decide)).1
      simp [go_sem, hc, e41, g8]
      exact hK _ _ hC (hGr _) ⟨rfl, fun h => by cases h⟩
    refine Rely.allOb_cons (Rely.ob_plain rfl (fun ac ρ hc hg hf w hC hold dep K Q hK => ?_)) ?_
    · -- slot 43: Op.pick t38 (const (Value.bool true)) t42
      have e38 : ρ (.tmp 38) = .bool false := (dep 13 (by decide) (by decide)).1
      have e42 : ρ (.tmp 42) = .bool false := (dep 17 (by decide) (by decide)).1
      simp [go_sem, hc, e38, e42]
      exact hK _ _ hC (hGr _) ⟨rfl, fun h => by cases h⟩
    refine Rely.allOb_cons (Rely.ob_plain rfl (fun ac ρ hc hg hf w hC hold dep K Q hK => ?_)) ?_
    · -- slot 44: Op.move t43
      have e43 : ρ (.tmp 43) = .bool false := (dep 18 (by decide) (by decide)).1
      refine Rely.upon_move _ rfl ?_
      exact hK _ _ hC (hGr _) ⟨e43, fun h => by cases h⟩
    refine Rely.allOb_cons (Rely.ob_want 19 false rfl (by decide) (by decide) (fun _ _ h => h.1) (fun ac ρ hc hg hf w hC hold dep K Q hK => ?_)) ?_
    · -- slot 45: Op.load 25 t7
      have e7 : ρ (.tmp 7) = .pointer (some ⟨w2.heap.size, 0, none⟩) := hold 7 (by decide)
      simp [go_sem, e7, hc0 _ hC, hc1 _ hC, hc2 _ hC]
      exact hK _ _ hC (hGr _) ⟨rfl, fun h => by cases h⟩
    refine Rely.allOb_cons (Rely.ob_want 19 false rfl (by decide) (by decide) (fun _ _ h => h.1) (fun ac ρ hc hg hf w hC hold dep K Q hK => ?_)) ?_
    · -- slot 46: Op.move t1
      have e1 : ρ (.tmp 1) = .int .i64 b := hold 1 (by decide)
      refine Rely.upon_move _ rfl ?_
      exact hK _ _ hC (hGr _) ⟨e1, fun h => by cases h⟩
    refine Rely.allOb_cons (Rely.ob_want 19 false rfl (by decide) (by decide) (fun _ _ h => h.1) (fun ac ρ hc hg hf w hC hold dep K Q hK => ?_)) ?_
    · -- slot 47: Op.call { value (Operand.func 20), args := #[t46], argTypes 
      have e46 : ρ (.tmp 46) = .int .i64 b := (dep 21 (by decide) (by decide)).1
      simp [go_sem, hf, e46]
      refine (Int_any b w).mono ?_
      rintro e w4 ⟨⟨a6, c6, rfl, o6⟩, hb⟩
      exact hK _ _ (hC.trans (hb.mono hC.size)) hb ⟨trivial, fun _ => ⟨a6, c6, rfl, o6.it⟩⟩
    refine Rely.allOb_cons (Rely.ob_want 19 false rfl (by decide) (by decide) (fun _ _ h => h.1) (fun ac ρ hc hg hf w hC hold dep K Q hK => ?_)) ?_
    · -- slot 48: Op.call { value (Operand.func 19), args := #[t45, t47], argT
      have e45 : ρ (.tmp 45) = .agg #[.int .i64 2, .slice a5 na c5, .slice none 0 0] := (dep 20 (by decide) (by decide)).1
      have s47 := (dep 22 (by decide) (by decide)).2 rfl
      obtain ⟨a6, c6, e47, p6⟩ := s47
      replace e47 : ρ (.tmp 47) = .agg #[.int .i64 2, .slice a6 (intB b).length c6, .slice none 0 0] := e47
      simp [go_sem, hf, e45, e47]
      refine (Same_ints a b D HD.out HA.out HBb.out _ _ w (P6.out.below hC) p6).mono ?_
      rintro e w4 ⟨rfl, hb⟩
      exact hK _ _ (hC.trans (hb.mono hC.size)) hb ⟨rfl, fun h => by cases h⟩
    refine Rely.allOb_cons (Rely.ob_want 19 false rfl (by decide) (by decide) (fun _ _ h => h.1) (fun ac ρ hc hg hf w hC hold dep K Q hK => ?_)) ?_
    · -- slot 49: Op.move t0
      have e0 : ρ (.tmp 0) = .int .i64 a := hold 0 (by decide)
      refine Rely.upon_move _ rfl ?_
      exact hK _ _ hC (hGr _) ⟨e0, fun h => by cases h⟩
    refine Rely.allOb_cons (Rely.ob_want 19 false rfl (by decide) (by decide) (fun _ _ h => h.1) (fun ac ρ hc hg hf w hC hold dep K Q hK => ?_)) ?_
    · -- slot 50: Op.move t1
      have e1 : ρ (.tmp 1) = .int .i64 b := hold 1 (by decide)
      refine Rely.upon_move _ rfl ?_
      exact hK _ _ hC (hGr _) ⟨e1, fun h => by cases h⟩
    refine Rely.allOb_cons (Rely.ob_want 19 false rfl (by decide) (by decide) (fun _ _ h => h.1) (fun ac ρ hc hg hf w hC hold dep K Q hK => ?_)) ?_
    · -- slot 51: Op.binOp BinOp.eql 3 t49 t50 3
      have e49 : ρ (.tmp 49) = .int .i64 a := (dep 24 (by decide) (by decide)).1
      have e50 : ρ (.tmp 50) = .int .i64 b := (dep 25 (by decide) (by decide)).1
      simp [go_sem, e49, e50, HD.out]
      exact hK _ _ hC (hGr _) ⟨rfl, fun h => by cases h⟩
    refine Rely.allOb_cons (Rely.ob_want 19 false rfl (by decide) (by decide) (fun _ _ h => h.1) (fun ac ρ hc hg hf w hC hold dep K Q hK => ?_)) ?_
    · -- slot 52: Op.binOp BinOp.neq 4 t48 t51 4
      have e48 : ρ (.tmp 48) = .bool D := (dep 23 (by decide) (by decide)).1
      have e51 : ρ (.tmp 51) = .bool D := (dep 26 (by decide) (by decide)).1
      simp [go_sem, e48, e51]
      exact hK _ _ hC (hGr _) ⟨rfl, fun h => by cases h⟩
    refine Rely.allOb_cons (Rely.ob_plain rfl (fun ac ρ hc hg hf w hC hold dep K Q hK => ?_)) ?_
    · -- slot 53: Op.pick t44 (const (Value.bool true)) t52
      have e44 : ρ (.tmp 44) = .bool false := (dep 19 (by decide) (by decide)).1
      have e52 : ρ (.tmp 52) = .bool false := (dep 27 (by decide) (by decide)).1
      simp [go_sem, hc, e44, e52]
      exact hK _ _ hC (hGr _) ⟨rfl, fun h => by cases h⟩
    exact Rely.allOb_nil
  · intro vs w4 hb hall
    have e28 : vs 28 = .bool false := (Rely.allR_at hall 28 (by decide)).1
    have c0 := hc0 _ hb; have c1 := hc1 _ hb; have c2 := hc2 _ hb
    clear hall hc0 hc1 hc2 g1 g8
    have HB5 := Lib.hid (HB4.out.trans (hb.mono HB4.out.size)); have HB45 := Lib.hid hb
    clear hb
    simp only [Rely.putAll, Act.put, Nat.reduceAdd, e28, List.setIfInBounds_toArray, List.set_cons_succ, List.set_cons_zero]
    generalize vs 0 = v0, vs 1 = v1, vs 2 = v2, vs 3 = v3, vs 4 = v4, vs 5 = v5, vs 6 = v6, vs 7 = v7, vs 8 = v8, vs 9 = v9, vs 10 = v10, vs 11 = v11, vs 12 = v12, vs 13 = v13, vs 14 = v14, vs 15 = v15, vs 16 = v16, vs 17 = v17, vs 18 = v18, vs 19 = v19, vs 20 = v20, vs 21 = v21, vs 22 = v22, vs 23 = v23, vs 24 = v24, vs 25 = v25, vs 26 = v26, vs 27 = v27
    clear e28 vs
    have hX : w2.heap.size < w4.heap.size := Nat.lt_of_lt_of_le Q3.out.lt HB45.out.size
    have P7 := Lib.hid (P6.out.below HB45.out)
    have hN := HLS.out
    by_cases hn1 : na = 1
    case' pos =>
      have n1 : ¬ (1 : Int) < (na : Int) := by omega
      clear hN hn1
      go_upto_region 11 with fail
    case' neg =>
      have n1 : (1 : Int) < (na : Int) := by omega
      clear hN hn1
      have w1 : IntKind.i64.wrap (8 * (na : Int)) = 8 * (na : Int) := IntWalk.i64_in _ (by have := HLS.out; omega)
      have w2' : IntKind.i64.wrap (8 * (na : Int) - 9) = 8 * (na : Int) - 9 := IntWalk.i64_in _ (by have := HLS.out; omega)
      have w3' : IntKind.u64.wrap (8 * (na : Int) - 9) = 8 * (na : Int) - 9 := IntWalk.u64_in _ (by have := HLS.out; omega)
      have s0 : (0 : Int) ≤ 8 * (na : Int) - 9 := by omega
      have s1 : 8 * (na : Int) - 9 ≤ 64 := by have := HLS.out; omega
      obtain ⟨L, hL⟩ : ∃ L, a / 2 ^ (8 * (na : Int) - 9).toNat = L := ⟨_, rfl⟩
      have hlow := low_not a HA.out.1 HA.out.2 (by rw [HNA.out]; omega)
      rw [HNA.out, show 8 * na - 9 = (8 * (na : Int) - 9).toNat by omega, hL] at hlow
      have hL0 : (L == 0) = false := beq_eq_false_iff_ne.2 hlow.1
      have hL1 : (L == -1) = false := beq_eq_false_iff_ne.2 hlow.2
      clear hlow
    all_goals
      cases c with
      | true =>
        have o1 : OwnB ((w4.alloc (.cells #[.int .u8 255] 5)).alloc (.cells #[.int .i64 2, .slice (some ⟨w4.heap.size, 0, none⟩) 1 1, .slice none 0 0] 25)) w4.heap.size (.slice (some ⟨w4.heap.size, 0, none⟩) 1 1) [255] :=
          (World.ownsRow_lit (base := w4.heap.size) (e := 5) (size := 1) w4 #[.int .u8 255] 1 (Nat.le_refl _) (by unfold maxLen; omega) rfl).alloc _
        have r1 : Row .u8 ((w4.alloc (.cells #[.int .u8 255] 5)).alloc (.cells #[.int .i64 2, .slice (some ⟨w4.heap.size, 0, none⟩) 1 1, .slice none 0 0] 25)) (.slice a5 na c5) (intB a) := ((P7.out.alloc _).alloc _).2.1
        have q1 : Trip ((w4.alloc (.cells #[.int .u8 255] 5)).alloc (.cells #[.int .i64 2, .slice (some ⟨w4.heap.size, 0, none⟩) 1 1, .slice none 0 0] 25)) (w4.heap.size + 1) 25 (.int .i64 2) (.slice (some ⟨w4.heap.size, 0, none⟩) 1 1) (.slice none 0 0) := by
          have := Trip.new (w4.alloc (.cells #[.int .u8 255] 5)) 25 (.int .i64 2) (.slice (some ⟨w4.heap.size, 0, none⟩) 1 1) (.slice none 0 0)
          rwa [show (w4.alloc (.cells #[.int .u8 255] 5)).heap.size = w4.heap.size + 1 from World.size_alloc _ _] at this
        have hb1 : Below w4.heap.size w4 ((w4.alloc (.cells #[.int .u8 255] 5)).alloc (.cells #[.int .i64 2, .slice (some ⟨w4.heap.size, 0, none⟩) 1 1, .slice none 0 0] 25)) := ((Below.refl w4.heap.size w4).alloc (Nat.le_refl _) _).alloc (by simp) _
        have O1 := Lib.hid o1; have R1 := Lib.hid r1; have Q1 := Lib.hid q1; have HB1' := Lib.hid hb1
        clear o1 r1 q1 hb1
        by_cases hneg : a < 0
        case neg =>
          have hneg' : ¬ a < 0 := by omega
          clear hneg
          go_wp2_with (first
            | (at_builtin; refine wpList_plain rfl fun Kx hKx => ?_; refine wp_app _ _ rfl w4.heap.size (by simp; omega) (.slice (some ⟨w4.heap.size, 0, none⟩) 1 1) [255] rfl (by exact O1.out) (.slice a5 na c5) (intB a) (by exact R1.out) rfl (by have := HLS.out.2; have := HNA.out; simp; omega) ?_
               intro v9 w5 ap
               obtain ⟨a9, n9, c9, rfl⟩ := owns_slice ap.own
               have hb5 := HB1'.out.trans (ap.below O1.out HB1'.out.size)
               have q5 : Trip w5 (w4.heap.size + 1) 25 (.int .i64 2) (.slice (some ⟨w4.heap.size, 0, none⟩) 1 1) (.slice none 0 0) := (ap.grown.block _ Q1.out.lt (by simp [Value.ownBlock])).trans Q1.out
               have rr : Row .u8 w5 (.slice a9 n9 c9) (255 :: intB a) := Row.of_bytes ap.own (by
                 intro z hz
                 rcases List.mem_cons.1 hz with rfl | hz
                 · exact ⟨by decide, by decide⟩
                 · exact intB_byte a HA.out.1 HA.out.2 z hz)
               have f5 := q5.free 1
               have x5 := q5.cell1
               have RR := Lib.hid rr; have Q5 := Lib.hid q5; have HB5' := Lib.hid hb5
               clear ap q5 hb5 rr
               refine hKx _ _ ?_)
            | fail)
          go_ret
          exact ⟨rfl, HB5.out.trans ((HB5'.out.setCell (by show w4.heap.size ≤ w4.heap.size + 1; omega) _).mono HB5.out.size)⟩
        go_upto_region 15 with (first
            | (at_builtin; refine wpList_plain rfl fun Kx hKx => ?_; refine wp_app _ _ rfl w4.heap.size (by simp; omega) (.slice (some ⟨w4.heap.size, 0, none⟩) 1 1) [255] rfl (by exact O1.out) (.slice a5 na c5) (intB a) (by exact R1.out) rfl (by have := HLS.out.2; have := HNA.out; simp; omega) ?_
               intro v9 w5 ap
               obtain ⟨a9, n9, c9, rfl⟩ := owns_slice ap.own
               have hb5 := HB1'.out.trans (ap.below O1.out HB1'.out.size)
               have q5 : Trip w5 (w4.heap.size + 1) 25 (.int .i64 2) (.slice (some ⟨w4.heap.size, 0, none⟩) 1 1) (.slice none 0 0) := (ap.grown.block _ Q1.out.lt (by simp [Value.ownBlock])).trans Q1.out
               have rr : Row .u8 w5 (.slice a9 n9 c9) (255 :: intB a) := Row.of_bytes ap.own (by
                 intro z hz
                 rcases List.mem_cons.1 hz with rfl | hz
                 · exact ⟨by decide, by decide⟩
                 · exact intB_byte a HA.out.1 HA.out.2 z hz)
               have f5 := q5.free 1
               have x5 := q5.cell1
               have RR := Lib.hid rr; have Q5 := Lib.hid q5; have HB5' := Lib.hid hb5
               clear ap q5 hb5 rr
               refine hKx _ _ ?_)
            | fail)
        obtain ⟨V, hV⟩ : ∃ V, w5.setCell ⟨w4.heap.size + 1, 1, none⟩ (.slice a9 n9 c9) = V := ⟨_, rfl⟩
        have qV : Trip V (w4.heap.size + 1) 25 (.int .i64 2) (.slice a9 n9 c9) (.slice none 0 0) := by rw [← hV]; exact Q5.out.set1 _
        have rV : Row .u8 V (.slice a9 n9 c9) (255 :: intB a) := by rw [← hV]; exact RR.out.aside (p := ⟨w4.heap.size + 1, 1, none⟩) (RR.out.off_trip Q5.out) _
        have hbV : Below w.heap.size w V := by rw [← hV]; exact HB5.out.trans ((HB5'.out.setCell (by show w4.heap.size ≤ w4.heap.size + 1; omega) _).mono HB5.out.size)
        have iV : ItP V (.slice a9 n9 c9) (.slice none 0 0) (.mk 2 (255 :: intB a) []) := ⟨(show (Lit.int .i64 2).wf = true by decide), rV, ItsV.nil _⟩
        have hp : (255 : Int) = if a < 0 then 255 else 0 := by rw [if_pos (by omega)]
        have hC1 := AsInt_more a 255 HA.out hp (.slice a9 n9 c9) V (HK.out.below hbV) iV
        rw [hV]
        have QV := Lib.hid qV; have HBV := Lib.hid hbV; have IV := Lib.hid iV; have HP := Lib.hid hp
        clear hV rV hbV iV hp f5 x5
        have x0 := qV.cell0; have x1 := qV.cell1; have x2 := qV.cell2
        clear qV
        go_wp2_with fail
        refine hC1.mono ?_; rintro e w6 ⟨rfl, hb6⟩
        clear hC1 x0 x1 x2
        have q6 := trip_stp QV.out hb6
        have x0 := q6.cell0; have x1 := q6.cell1; have x2 := q6.cell2
        have hb06 := HBV.out.trans (hb6.mono HBV.out.size)
        have hC2 := Put_more a 255 HA.out HP.out (.slice a9 n9 c9) w6 (HK.out.below hb06) (IV.out.below hb6)
        have HB06 := Lib.hid hb06
        clear q6 hb6 hb06
        go_wp2_with fail
        refine hC2.mono ?_; rintro e w7 ⟨rfl, hb7⟩
        clear hC2 x0 x1 x2
        go_wp2_with fail
        go_ret
        exact ⟨rfl, HB06.out.trans (hb7.mono HB06.out.size)⟩
      | false =>
        have o1 : OwnB ((w4.alloc (.cells #[.int .u8 0] 5)).alloc (.cells #[.int .i64 2, .slice (some ⟨w4.heap.size, 0, none⟩) 1 1, .slice none 0 0] 25)) w4.heap.size (.slice (some ⟨w4.heap.size, 0, none⟩) 1 1) [0] :=
          (World.ownsRow_lit (base := w4.heap.size) (e := 5) (size := 1) w4 #[.int .u8 0] 1 (Nat.le_refl _) (by unfold maxLen; omega) rfl).alloc _
        have r1 : Row .u8 ((w4.alloc (.cells #[.int .u8 0] 5)).alloc (.cells #[.int .i64 2, .slice (some ⟨w4.heap.size, 0, none⟩) 1 1, .slice none 0 0] 25)) (.slice a5 na c5) (intB a) := ((P7.out.alloc _).alloc _).2.1
        have q1 : Trip ((w4.alloc (.cells #[.int .u8 0] 5)).alloc (.cells #[.int .i64 2, .slice (some ⟨w4.heap.size, 0, none⟩) 1 1, .slice none 0 0] 25)) (w4.heap.size + 1) 25 (.int .i64 2) (.slice (some ⟨w4.heap.size, 0, none⟩) 1 1) (.slice none 0 0) := by
          have := Trip.new (w4.alloc (.cells #[.int .u8 0] 5)) 25 (.int .i64 2) (.slice (some ⟨w4.heap.size, 0, none⟩) 1 1) (.slice none 0 0)
          rwa [show (w4.alloc (.cells #[.int .u8 0] 5)).heap.size = w4.heap.size + 1 from World.size_alloc _ _] at this
        have hb1 : Below w4.heap.size w4 ((w4.alloc (.cells #[.int .u8 0] 5)).alloc (.cells #[.int .i64 2, .slice (some ⟨w4.heap.size, 0, none⟩) 1 1, .slice none 0 0] 25)) := ((Below.refl w4.heap.size w4).alloc (Nat.le_refl _) _).alloc (by simp) _
        have O1 := Lib.hid o1; have R1 := Lib.hid r1; have Q1 := Lib.hid q1; have HB1' := Lib.hid hb1
        clear o1 r1 q1 hb1
        by_cases hneg : ¬ a < 0
        case neg =>
          have hneg' : a < 0 := by omega
          clear hneg
          go_wp2_with (first
            | (at_builtin; refine wpList_plain rfl fun Kx hKx => ?_; refine wp_app _ _ rfl w4.heap.size (by simp; omega) (.slice (some ⟨w4.heap.size, 0, none⟩) 1 1) [0] rfl (by exact O1.out) (.slice a5 na c5) (intB a) (by exact R1.out) rfl (by have := HLS.out.2; have := HNA.out; simp; omega) ?_
               intro v9 w5 ap
               obtain ⟨a9, n9, c9, rfl⟩ := owns_slice ap.own
               have hb5 := HB1'.out.trans (ap.below O1.out HB1'.out.size)
               have q5 : Trip w5 (w4.heap.size + 1) 25 (.int .i64 2) (.slice (some ⟨w4.heap.size, 0, none⟩) 1 1) (.slice none 0 0) := (ap.grown.block _ Q1.out.lt (by simp [Value.ownBlock])).trans Q1.out
               have rr : Row .u8 w5 (.slice a9 n9 c9) (0 :: intB a) := Row.of_bytes ap.own (by
                 intro z hz
                 rcases List.mem_cons.1 hz with rfl | hz
                 · exact ⟨by decide, by decide⟩
                 · exact intB_byte a HA.out.1 HA.out.2 z hz)
               have f5 := q5.free 1
               have x5 := q5.cell1
               have RR := Lib.hid rr; have Q5 := Lib.hid q5; have HB5' := Lib.hid hb5
               clear ap q5 hb5 rr
               refine hKx _ _ ?_)
            | fail)
          go_ret
          exact ⟨rfl, HB5.out.trans ((HB5'.out.setCell (by show w4.heap.size ≤ w4.heap.size + 1; omega) _).mono HB5.out.size)⟩
        go_upto_region 15 with (first
            | (at_builtin; refine wpList_plain rfl fun Kx hKx => ?_; refine wp_app _ _ rfl w4.heap.size (by simp; omega) (.slice (some ⟨w4.heap.size, 0, none⟩) 1 1) [0] rfl (by exact O1.out) (.slice a5 na c5) (intB a) (by exact R1.out) rfl (by have := HLS.out.2; have := HNA.out; simp; omega) ?_
               intro v9 w5 ap
               obtain ⟨a9, n9, c9, rfl⟩ := owns_slice ap.own
               have hb5 := HB1'.out.trans (ap.below O1.out HB1'.out.size)
               have q5 : Trip w5 (w4.heap.size + 1) 25 (.int .i64 2) (.slice (some ⟨w4.heap.size, 0, none⟩) 1 1) (.slice none 0 0) := (ap.grown.block _ Q1.out.lt (by simp [Value.ownBlock])).trans Q1.out
               have rr : Row .u8 w5 (.slice a9 n9 c9) (0 :: intB a) := Row.of_bytes ap.own (by
                 intro z hz
                 rcases List.mem_cons.1 hz with rfl | hz
                 · exact ⟨by decide, by decide⟩
                 · exact intB_byte a HA.out.1 HA.out.2 z hz)
               have f5 := q5.free 1
               have x5 := q5.cell1
               have RR := Lib.hid rr; have Q5 := Lib.hid q5; have HB5' := Lib.hid hb5
               clear ap q5 hb5 rr
               refine hKx _ _ ?_)
            | fail)
        obtain ⟨V, hV⟩ : ∃ V, w5.setCell ⟨w4.heap.size + 1, 1, none⟩ (.slice a9 n9 c9) = V := ⟨_, rfl⟩
        have qV : Trip V (w4.heap.size + 1) 25 (.int .i64 2) (.slice a9 n9 c9) (.slice none 0 0) := by rw [← hV]; exact Q5.out.set1 _
        have rV : Row .u8 V (.slice a9 n9 c9) (0 :: intB a) := by rw [← hV]; exact RR.out.aside (p := ⟨w4.heap.size + 1, 1, none⟩) (RR.out.off_trip Q5.out) _
        have hbV : Below w.heap.size w V := by rw [← hV]; exact HB5.out.trans ((HB5'.out.setCell (by show w4.heap.size ≤ w4.heap.size + 1; omega) _).mono HB5.out.size)
        have iV : ItP V (.slice a9 n9 c9) (.slice none 0 0) (.mk 2 (0 :: intB a) []) := ⟨(show (Lit.int .i64 2).wf = true by decide), rV, ItsV.nil _⟩
        have hp : (0 : Int) = if a < 0 then 255 else 0 := by rw [if_neg (by omega)]
        have hC1 := AsInt_more a 0 HA.out hp (.slice a9 n9 c9) V (HK.out.below hbV) iV
        rw [hV]
        have QV := Lib.hid qV; have HBV := Lib.hid hbV; have IV := Lib.hid iV; have HP := Lib.hid hp
        clear hV rV hbV iV hp f5 x5
        have x0 := qV.cell0; have x1 := qV.cell1; have x2 := qV.cell2
        clear qV
        go_wp2_with fail
        refine hC1.mono ?_; rintro e w6 ⟨rfl, hb6⟩
        clear hC1 x0 x1 x2
        have q6 := trip_stp QV.out hb6
        have x0 := q6.cell0; have x1 := q6.cell1; have x2 := q6.cell2
        have hb06 := HBV.out.trans (hb6.mono HBV.out.size)
        have hC2 := Put_more a 0 HA.out HP.out (.slice a9 n9 c9) w6 (HK.out.below hb06) (IV.out.below hb6)
        have HB06 := Lib.hid hb06
        clear q6 hb6 hb06
        go_wp2_with fail
        refine hC2.mono ?_; rintro e w7 ⟨rfl, hb7⟩
        clear hC2 x0 x1 x2
        go_wp2_with fail
        go_ret
        exact ⟨rfl, HB06.out.trans (hb7.mono HB06.out.size)⟩
end Go.Proofs.YtpmiihmhfagfoaaDoor
