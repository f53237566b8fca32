/-
  The walk over hash.Sum.
-/
import Derived.Test.YtlaidjgdipacgaaGreatDoorHx
import Derived.Test.YtlaidjgdipacgaaGreatDoorFc
import Derived.Test.YtlaidjgdipacgaaGreatDoorAp
import Derived.Test.YtlaidjgdipacgaaGreatDoorDu
namespace Go.Proofs.YtlaidjgdipacgaaGreatDoor
open Go.RowKit

/-- What lies there when the mixed state is stored. -/
theorem after_mix {w W w2 : World} {B : Nat} {x y z u v : Value} {t3 t2 : TypeId} (m : Hm.St) (ht : Trip W (B + 1) t3 x y z) (hd : Duo W B t2 u v) (hb : Below B w W) (hb2 : Below W.heap.size W w2) :
    Trip w2 (B + 1) t3 x y z ∧ Trip (((w2.setCell ⟨B + 1, 0, none⟩ (.int .u64 m.a)).setCell ⟨B + 1, 1, none⟩ (.int .u64 m.b)).setCell ⟨B + 1, 2, none⟩ (.int .u64 m.c)) (B + 1) t3 (.int .u64 m.a) (.int .u64 m.b) (.int .u64 m.c) ∧
      Duo (((w2.setCell ⟨B + 1, 0, none⟩ (.int .u64 m.a)).setCell ⟨B + 1, 1, none⟩ (.int .u64 m.b)).setCell ⟨B + 1, 2, none⟩ (.int .u64 m.c)) B t2 u v ∧
      Below B w (((w2.setCell ⟨B + 1, 0, none⟩ (.int .u64 m.a)).setCell ⟨B + 1, 1, none⟩ (.int .u64 m.b)).setCell ⟨B + 1, 2, none⟩ (.int .u64 m.c)) := by
  have ht2 := ht.kept hb2 ht.lt
  have hd2 := hd.kept hb2 hd.lt
  have hbb := hb.trans (hb2.mono (by have := hd.lt; omega))
  exact ⟨ht2, ((ht2.set0 _).set1 _).set2 _, ((hd2.other (p := ⟨B + 1, 0, none⟩) (by simp) _).other (p := ⟨B + 1, 1, none⟩) (by simp) _).other (p := ⟨B + 1, 2, none⟩) (by simp) _, ((hbb.setCell (by simp) _).setCell (by simp) _).setCell (by simp) _⟩
/-- A store elsewhere leaves a row as it was. -/
theorem Row.other {k : IntKind} {w : World} {v : Value} {l : List Int} (h : Row k w v l) {p : Addr} (hp : ∀ b o n c, v = .slice (some ⟨b, o, none⟩) n c → b ≠ p.block) (u : Value) : Row k (w.setCell p u) v l := by
  obtain ⟨a, cap, h1, h2, h3, h0, h4, h5⟩ := h
  refine ⟨a, cap, h1, h2, h3, h0, h4, fun hne => ?_⟩
  obtain ⟨b, off, e, hlt, hc⟩ := h5 hne
  subst e
  exact ⟨b, off, rfl, by simpa using hlt, fun i hi => (World.cell?_setCell_other w p ⟨b, off + i, none⟩ u (fun e => hp _ _ _ _ h1 (by subst e; rfl))).trans (hc i hi)⟩

/-- What is left of the hash. -/
def Hm.rest (first : Bool) (r : List Int) (s : Hm.St) : Hm.St := if first = true ∧ r = [] then Hm.mix s else Hm.absorb r s
theorem Hm.rest_start (l : List Int) : Hm.rest true (elems l) (Hm.start l.length) = Hm.sum l := by
  unfold Hm.rest Hm.sum; by_cases h : elems l = [] <;> simp [h]
theorem Hm.rest_one (f : Bool) (x : Int) (s : Hm.St) : Hm.rest f [x] s = Hm.rest false [] (Hm.mix ⟨Fm.add s.a x, s.b, s.c⟩) := by simp [Hm.rest, Hm.absorb]
theorem Hm.rest_two (f : Bool) (x y : Int) (t : List Int) (s : Hm.St) : Hm.rest f (x :: y :: t) s = Hm.rest false t (Hm.mix ⟨Fm.add s.a x, Fm.add s.b y, s.c⟩) := by simp [Hm.rest, Hm.absorb]
theorem Hm.rest_none (s : Hm.St) : Hm.rest true [] s = Hm.rest false [] (Hm.mix s) := by simp [Hm.rest, Hm.absorb]
theorem Hm.rest_end (s : Hm.St) : Hm.rest false [] s = s := by simp [Hm.rest, Hm.absorb]

set_option maxRecDepth 100000 in
set_option maxHeartbeats 2000000 in
theorem Sum_any (v : Value) (l : List Int) (w : World) (h : Row .u8 w v l) (hlen : l.length ≤ 1000000) :
    Calls Tryz.prog 78 #[v] w fun e w' => e = .returned (.agg #[.int .u64 (Hm.sum l).a, .int .u64 (Hm.sum l).b]) ∧ Below w.heap.size w w' := by
  obtain ⟨a1, c1, rfl, hr⟩ := h
  have h : Row .u8 w (.slice a1 l.length c1) l := ⟨a1, c1, rfl, hr⟩
  have u0 := Lib.hid (show U64 (l.length : Int) from ⟨by omega, by omega⟩)
  have eB : w.heap.size + 1 ≠ w.heap.size := by omega
  obtain ⟨B, hB⟩ : ∃ B, w.heap.size = B := ⟨_, rfl⟩
  have HB := Lib.hid hB
  go_enter Tryz.func78, Tryz.ntmps78
  go_wp2_with fail
  refine (Of_own _ l _ ((h.alloc _).alloc _) hlen).mono ?_; rintro e w1 ⟨r, rfl, hr1, hf1, hb1⟩
  have hf1' : Far (w.heap.size + 2) r := fun g e => by have := hf1 g e; simp at this; omega
  have hb1' : Below w.heap.size w w1 := (((Below.refl w.heap.size w).alloc (Nat.le_refl _) (.cells #[.int .u64 0, .int .u64 0] 53)).alloc (by simp) (.cells #[.int .u64 0, .int .u64 0, .int .u64 l.length] 168)).trans (hb1.mono (by simp; omega))
  have ht1 : Trip w1 (w.heap.size + 1) 168 (.int .u64 0) (.int .u64 0) (.int .u64 l.length) := by
    have ht := Trip.hnew (w.alloc (.cells #[.int .u64 0, .int .u64 0] 53)) 168 (.int .u64 0) (.int .u64 0) (.int .u64 l.length)
    simp only [World.size_alloc] at ht
    exact ht.kept hb1 (by simp)
  have hd1 : Duo w1 w.heap.size 53 (.int .u64 0) (.int .u64 0) := ((Duo.new w 53 (.int .u64 0) (.int .u64 0)).alloc (.cells #[.int .u64 0, .int .u64 0, .int .u64 l.length] 168)).kept hb1 (by simp; omega)
  rw [HB.out] at hf1' hb1' ht1 hd1
  clear hf1 hb1 hB h hr
  go_wp2_with fail
  go_loopw [4, 5] (fun rv fv wr => ∃ (f : Bool) (q : List Int) (s : Hm.St), fv = .bool f ∧ Row .u64 wr rv q ∧ Far (B + 2) rv ∧ U64 s.a ∧ U64 s.b ∧ U64 s.c ∧ Hm.rest f q s = Hm.sum l ∧ Trip wr (B + 1) 168 (.int .u64 s.a) (.int .u64 s.b) (.int .u64 s.c) ∧ Duo wr B 53 (.int .u64 0) (.int .u64 0) ∧ Below B w wr) (fun rv fv _ => lenOf rv + oneOf fv)
  case atStart =>
    exact ⟨true, _, Hm.start l.length, rfl, hr1, hf1', ⟨by simp [Hm.start], by simp [Hm.start]⟩, ⟨by simp [Hm.start], by simp [Hm.start]⟩, u0.out, Hm.rest_start l, ht1, hd1, hb1'⟩
  case round =>
    obtain ⟨f, q, s, rfl, hq, hfar, ua, ub, uc, he, ht, hd, hb⟩ := hrel
    obtain ⟨ra, rc, rfl, hq'⟩ := hq
    have hq : Row .u64 wr (.slice ra q.length rc) q := ⟨ra, rc, rfl, hq'⟩
    clear hr1 hf1' ht1 hd1 hb1'
    rcases q with _ | ⟨x, _ | ⟨y, t⟩⟩
    · cases f
      · rw [Hm.rest_end] at he
        have sl : ∀ W, (Instr.sliceAt 168 (.pointer (some ⟨B + 1, 0, none⟩)) none (some (.int .i64 2)) none).run Tryz.prog W = .ok (.slice (some ⟨B + 1, 0, none⟩) 2 3) W := fun _ => by kernel_rfl
        have sp : ∀ W, (Instr.arrayAt 53 (.slice (some ⟨B + 1, 0, none⟩) 2 3)).run Tryz.prog W = .ok (.pointer (some ⟨B + 1, 0, none⟩)) W := fun _ => by kernel_rfl
        have c0 := ht.cell0
        have c1 := ht.cell1
        have c2 := ht.cell2
        have d0 := hd.cell0
        have d1 := hd.cell1
        have g0 := hd.free 0
        have g1 := hd.free 1
        go_wp2_with fail
        have hz : Duo ((wr.setCell ⟨B, 0, none⟩ (.int .u64 (Hm.sum l).a)).setCell ⟨B, 1, none⟩ (.int .u64 (Hm.sum l).b)) B 53 (.int .u64 (Hm.sum l).a) (.int .u64 (Hm.sum l).b) := (hd.set0 _).set1 _
        refine bodyPost_ret (v := .agg #[.int .u64 (Hm.sum l).a, .int .u64 (Hm.sum l).b]) ?_ rfl ⟨rfl, by rw [HB.out]; exact (hb.setCell (by simp) _).setCell (by simp) _⟩
        exact results_cell_row (p := 2) (ty := 53) rfl _ _ B _ _ _ _ rfl hz rfl rfl rfl
      · rw [Hm.rest_none] at he
        have He := Lib.hid he
        clear he
        have c0 := ht.cell0
        have c1 := ht.cell1
        have c2 := ht.cell2
        have f0 := ht.free 0
        have f1 := ht.free 1
        have f2 := ht.free 2
        go_wp2_with fail
        refine wp_loop_rounds 1 ?_
        rw [rounds_succ]
        go_wp2_with fail
        all_goals
          refine (Mix_any s _ ua ub uc).mono ?_; rintro e w2 ⟨rfl, hb2⟩
          have ht2 := ht.kept hb2 ht.lt
          have hd2 := hd.kept hb2 hd.lt
          have hbb := hb.trans (hb2.mono (by have := hd.lt; omega))
          have hq2 := hq.below hb2
          clear c0 c1 c2 f0 f1 f2
          have c0 := ht2.cell0
          have c1 := ht2.cell1
          have c2 := ht2.cell2
          have f0 := ht2.free 0
          have f1 := ht2.free 1
          have f2 := ht2.free 2
          have ht3 : Trip (((w2.setCell ⟨B + 1, 0, none⟩ (.int .u64 (Hm.mix s).a)).setCell ⟨B + 1, 1, none⟩ (.int .u64 (Hm.mix s).b)).setCell ⟨B + 1, 2, none⟩ (.int .u64 (Hm.mix s).c)) (B + 1) 168 (.int .u64 (Hm.mix s).a) (.int .u64 (Hm.mix s).b) (.int .u64 (Hm.mix s).c) := ((ht2.set0 _).set1 _).set2 _
          have hd3 : Duo (((w2.setCell ⟨B + 1, 0, none⟩ (.int .u64 (Hm.mix s).a)).setCell ⟨B + 1, 1, none⟩ (.int .u64 (Hm.mix s).b)).setCell ⟨B + 1, 2, none⟩ (.int .u64 (Hm.mix s).c)) B 53 (.int .u64 0) (.int .u64 0) := ((hd2.other (p := ⟨B + 1, 0, none⟩) (by simp) _).other (p := ⟨B + 1, 1, none⟩) (by simp) _).other (p := ⟨B + 1, 2, none⟩) (by simp) _
          have hb3 : Below B w (((w2.setCell ⟨B + 1, 0, none⟩ (.int .u64 (Hm.mix s).a)).setCell ⟨B + 1, 1, none⟩ (.int .u64 (Hm.mix s).b)).setCell ⟨B + 1, 2, none⟩ (.int .u64 (Hm.mix s).c)) := ((hbb.setCell (by simp) _).setCell (by simp) _).setCell (by simp) _
          obtain ⟨m1, m2, m3⟩ := Hm.mix_ok s
          have M := Lib.hid (show U64 (Hm.mix s).a ∧ U64 (Hm.mix s).b ∧ U64 (Hm.mix s).c from ⟨U64.of_rng m1, U64.of_rng m2, U64.of_rng m3⟩)
          clear m1 m2 m3 ht2 hd2 hbb
          go_wp2_with fail
          go_roundw
          case rel => exact ⟨false, [], Hm.mix s, rfl, Row.empty _ _ _ _ hq'.2.1 hq'.2.2.1, hfar, M.out.1, M.out.2.1, M.out.2.2, He.out, ht3, hd3, hb3⟩
          case measure => simp [lenOf, oneOf]
    · rw [Hm.rest_one] at he
      have He := Lib.hid he
      clear he
      obtain ⟨b, o, rfl, hlt, hc⟩ := hq'.2.2.2.2 (by simp)
      have hg := hfar b rfl
      have c0 := ht.cell0
      have f0 := ht.free 0
      have g0 : wr.cell? ⟨b, o, none⟩ = some (.int .u64 x) := hc 0 (by simp)
      have ux : U64 x := U64.of_wf (hq'.2.2.2.1 x (by simp))
      have Hq := Lib.hid hq
      have hrc : 1 ≤ rc := hq'.1
      have hrm : rc ≤ 9223372036854775807 := by have := hq'.2.1; unfold maxLen at this; omega
      clear hc
      have hq'' := Lib.hid hq'
      clear hq' hq
      by_cases hz : rc = 1
      all_goals
        cases f
        all_goals
          go_wp2_with fail
          refine wp_loop_rounds 2 ?_
          rw [rounds_succ]
          go_wp2_with fail
          refine (Add_any s.a x _ ua ux).mono ?_; rintro e w' ⟨rfl, rfl⟩
          go_wp2_with fail
          have hT := ht.set0 (.int .u64 (Fm.add s.a x))
          have hD := hd.other (p := ⟨B + 1, 0, none⟩) (by simp) (.int .u64 (Fm.add s.a x))
          have hW := hb.setCell (p := ⟨B + 1, 0, none⟩) (by simp) (.int .u64 (Fm.add s.a x))
          obtain ⟨W, hWe⟩ : ∃ W, wr.setCell ⟨B + 1, 0, none⟩ (.int .u64 (Fm.add s.a x)) = W := ⟨_, rfl⟩
          rw [hWe] at hT hD hW ⊢
          have hqW : Row .u64 W (.slice (some ⟨b, o, none⟩) 1 rc) [x] := by rw [← hWe]; exact Hq.out.other (fun b' o' l' c' e => by cases e; show b ≠ B + 1; omega) _
          have HqW := Lib.hid hqW
          clear hWe c0 f0 g0 hqW
          have c0 := hT.cell0
          have c1 := hT.cell1
          have c2 := hT.cell2
          rw [rounds_succ]
          go_wp2_with fail
          refine (Mix_any ⟨Fm.add s.a x, s.b, s.c⟩ _ (U64.of_rng (Fm.add_rng _ _)) ub uc).mono ?_; rintro e w2 ⟨rfl, hb2⟩
          obtain ⟨ht2, ht3, hd3, hb3⟩ := after_mix (Hm.mix ⟨Fm.add s.a x, s.b, s.c⟩) hT hD hW hb2
          clear c0 c1 c2
          have c0 := ht2.cell0
          have c1 := ht2.cell1
          have c2 := ht2.cell2
          have f0 := ht2.free 0
          have f1 := ht2.free 1
          have f2 := ht2.free 2
          obtain ⟨m1, m2, m3⟩ := Hm.mix_ok ⟨Fm.add s.a x, s.b, s.c⟩
          have M := Lib.hid (show U64 (Hm.mix ⟨Fm.add s.a x, s.b, s.c⟩).a ∧ U64 (Hm.mix ⟨Fm.add s.a x, s.b, s.c⟩).b ∧ U64 (Hm.mix ⟨Fm.add s.a x, s.b, s.c⟩).c from ⟨U64.of_rng m1, U64.of_rng m2, U64.of_rng m3⟩)
          clear m1 m2 m3 ht2 hT hD hW
          go_wp2_with fail
          go_roundw
          case rel => exact ⟨false, [], _, rfl, Row.empty _ _ _ _ (by have := hq''.out.2.1; omega) (by simp), far_add' b _ _ _ hg, M.out.1, M.out.2.1, M.out.2.2, He.out, ht3, hd3, hb3⟩
          case measure => simp [lenOf, oneOf]
    · rw [Hm.rest_two] at he
      have He := Lib.hid he
      clear he
      obtain ⟨b, o, rfl, hlt, hc⟩ := hq'.2.2.2.2 (by simp)
      have hg := hfar b rfl
      have c0 := ht.cell0
      have f0 := ht.free 0
      have g0 : wr.cell? ⟨b, o, none⟩ = some (.int .u64 x) := hc 0 (by simp)
      have g1 : wr.cell? ⟨b, o + 1, none⟩ = some (.int .u64 y) := hc 1 (by simp)
      have G1 := Lib.hid g1
      have ux : U64 x := U64.of_wf (hq'.2.2.2.1 x (by simp))
      have uy : U64 y := U64.of_wf (hq'.2.2.2.1 y (by simp))
      obtain ⟨tn, htn⟩ : ∃ tn, t.length = tn := ⟨_, rfl⟩
      have hlen2 : (x :: y :: t).length = tn + 2 := by simp [htn]
      rw [hlen2] at hq hfar ⊢
      have HL := Lib.hid hlen2
      have HT := Lib.hid htn
      have hrc : tn + 2 ≤ rc := by have := hq'.1; omega
      have hrm : rc ≤ 9223372036854775807 := by have := hq'.2.1; unfold maxLen at this; omega
      have Hq := Lib.hid hq
      have hq'' := Lib.hid hq'
      have ne1 : b ≠ B + 1 := by omega
      clear hc hq' hq g1 hlen2 htn
      by_cases hz : rc = 2
      all_goals
        cases f
        all_goals
          go_wp2_with fail
          refine wp_loop_rounds 3 ?_
          rw [rounds_succ]
          go_wp2_with fail
          refine (Add_any s.a x _ ua ux).mono ?_; rintro e w' ⟨rfl, rfl⟩
          go_wp2_with fail
          have hT0 := ht.set0 (.int .u64 (Fm.add s.a x))
          have hD0 := hd.other (p := ⟨B + 1, 0, none⟩) (by simp) (.int .u64 (Fm.add s.a x))
          have hW0 := hb.setCell (p := ⟨B + 1, 0, none⟩) (by simp) (.int .u64 (Fm.add s.a x))
          have hq0 : Row .u64 (wr.setCell ⟨B + 1, 0, none⟩ (.int .u64 (Fm.add s.a x))) (.slice (some ⟨b, o, none⟩) (tn + 2) rc) (x :: y :: t) := Hq.out.other (fun b' o' l' c' e => by cases e; show b ≠ B + 1; omega) _
          have g1 : (wr.setCell ⟨B + 1, 0, none⟩ (.int .u64 (Fm.add s.a x))).cell? ⟨b, o + 1, none⟩ = some (.int .u64 y) := (World.cell?_setCell_other wr ⟨B + 1, 0, none⟩ ⟨b, o + 1, none⟩ _ (by simp)).trans G1.out
          obtain ⟨W0, hWe⟩ : ∃ W, wr.setCell ⟨B + 1, 0, none⟩ (.int .u64 (Fm.add s.a x)) = W := ⟨_, rfl⟩
          rw [hWe] at hT0 hD0 hW0 hq0 g1 ⊢
          have Hq0 := Lib.hid hq0
          clear hWe c0 f0 g0 hq0
          have c1 := hT0.cell1
          have f1 := hT0.free 1
          rw [rounds_succ]
          go_wp2_with fail
          refine (Add_any s.b y _ ub uy).mono ?_; rintro e w' ⟨rfl, rfl⟩
          go_wp2_with fail
          have hT := hT0.set1 (.int .u64 (Fm.add s.b y))
          have hD := hD0.other (p := ⟨B + 1, 1, none⟩) (by simp) (.int .u64 (Fm.add s.b y))
          have hW := hW0.setCell (p := ⟨B + 1, 1, none⟩) (by simp) (.int .u64 (Fm.add s.b y))
          have hqW : Row .u64 (W0.setCell ⟨B + 1, 1, none⟩ (.int .u64 (Fm.add s.b y))) (.slice (some ⟨b, o, none⟩) (tn + 2) rc) (x :: y :: t) := Hq0.out.other (fun b' o' l' c' e => by cases e; show b ≠ B + 1; omega) _
          obtain ⟨W, hWe⟩ : ∃ W, W0.setCell ⟨B + 1, 1, none⟩ (.int .u64 (Fm.add s.b y)) = W := ⟨_, rfl⟩
          rw [hWe] at hT hD hW hqW ⊢
          have HqW := Lib.hid hqW
          clear hWe c1 f1 g1 hqW hT0 hD0 hW0
          have c0 := hT.cell0
          have c1 := hT.cell1
          have c2 := hT.cell2
          rw [rounds_succ]
          go_wp2_with fail
          refine (Mix_any ⟨Fm.add s.a x, Fm.add s.b y, s.c⟩ _ (U64.of_rng (Fm.add_rng _ _)) (U64.of_rng (Fm.add_rng _ _)) uc).mono ?_; rintro e w2 ⟨rfl, hb2⟩
          obtain ⟨ht2, ht3, hd3, hb3⟩ := after_mix (Hm.mix ⟨Fm.add s.a x, Fm.add s.b y, s.c⟩) hT hD hW hb2
          clear c0 c1 c2
          have c0 := ht2.cell0
          have c1 := ht2.cell1
          have c2 := ht2.cell2
          have f0 := ht2.free 0
          have f1 := ht2.free 1
          have f2 := ht2.free 2
          obtain ⟨m1, m2, m3⟩ := Hm.mix_ok ⟨Fm.add s.a x, Fm.add s.b y, s.c⟩
          have M := Lib.hid (show U64 (Hm.mix ⟨Fm.add s.a x, Fm.add s.b y, s.c⟩).a ∧ U64 (Hm.mix ⟨Fm.add s.a x, Fm.add s.b y, s.c⟩).b ∧ U64 (Hm.mix ⟨Fm.add s.a x, Fm.add s.b y, s.c⟩).c from ⟨U64.of_rng m1, U64.of_rng m2, U64.of_rng m3⟩)
          clear m1 m2 m3 ht2 hT hD hW
          have hq3 := ((((HqW.out.below hb2).other (p := ⟨B + 1, 0, none⟩) (fun b' o' l' c' e => by cases e; exact ne1) (.int .u64 (Hm.mix ⟨Fm.add s.a x, Fm.add s.b y, s.c⟩).a)).other (p := ⟨B + 1, 1, none⟩) (fun b' o' l' c' e => by cases e; exact ne1) (.int .u64 (Hm.mix ⟨Fm.add s.a x, Fm.add s.b y, s.c⟩).b)).other (p := ⟨B + 1, 2, none⟩) (fun b' o' l' c' e => by cases e; exact ne1) (.int .u64 (Hm.mix ⟨Fm.add s.a x, Fm.add s.b y, s.c⟩).c))
          have Hq3 := Lib.hid hq3
          clear hq3
          go_wp2_with fail
          go_roundw
          case rel =>
            refine ⟨false, t, _, rfl, ?_, far_add' b _ _ _ hg, M.out.1, M.out.2.1, M.out.2.2, He.out, ht3, hd3, hb3⟩
            first
              | (have hr := Hq3.out.cut 2 (by simp) (by omega); exact hr)
              | (have hr := Hq3.out.cut_all 2 (by simp) (by omega); exact hr)
          case measure => simp [lenOf, oneOf] <;> omega
end Go.Proofs.YtlaidjgdipacgaaGreatDoor
