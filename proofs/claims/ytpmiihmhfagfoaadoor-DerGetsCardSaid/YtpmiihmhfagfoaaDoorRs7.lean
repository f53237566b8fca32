/-
  The walk over greatsealref07.Same.
-/
import Derived.Test.YtpmiihmhfagfoaaDoorEa
import Derived.Lib.QuietBelow
import Derived.BigQuiet
namespace Go.Proofs.YtpmiihmhfagfoaaDoor
open Go.RowKit Go.Sort

/-- What is asked of a call of the document's Same. -/
def RSameOn (x : Dm.It) : Prop := ∀ (y : Dm.It) (w : World) (vb vl ub ul : Value), ItP w vb vl x → ItP w ub ul y →
  Calls Tryd.prog 18 #[.agg #[.int .i64 x.tag, vb, vl], .agg #[.int .i64 y.tag, ub, ul]] w fun e w' => e = .returned (.bool (Dm.eqIt x y)) ∧ Below w.heap.size w w'

set_option maxRecDepth 100000 in
set_option maxHeartbeats 4000000 in
theorem rsame_of (x : Dm.It) (hP : ∀ y ∈ x.l, RSameOn y) : RSameOn x := by
  intro y w vb vl ub ul hx hy
  have hm1 : x.l.length ≤ maxLen := by obtain ⟨_, _, _, q1, q2, _⟩ := hx.2.2; omega
  unfold maxLen at hm1
  obtain ⟨ab, cb, rfl⟩ := hx.2.1.shape x.b.length rfl
  obtain ⟨al, cl, rfl⟩ := hx.2.2.shape
  obtain ⟨ab', cb', rfl⟩ := hy.2.1.shape y.b.length rfl
  obtain ⟨al', cl', rfl⟩ := hy.2.2.shape
  rw [Dm.eqIt_eq]
  obtain ⟨nb, hnb⟩ : ∃ n, x.b.length = n := ⟨_, rfl⟩
  obtain ⟨nl, hnl⟩ : ∃ n, x.l.length = n := ⟨_, rfl⟩
  obtain ⟨mb, hmb⟩ : ∃ n, y.b.length = n := ⟨_, rfl⟩
  obtain ⟨ml, hml⟩ : ∃ n, y.l.length = n := ⟨_, rfl⟩
  obtain ⟨T, hT⟩ : ∃ T, x.tag = T := ⟨_, rfl⟩
  obtain ⟨U, hU⟩ : ∃ U, y.tag = U := ⟨_, rfl⟩
  have hq1 := hx.2.2; have hq2 := hy.2.2
  have hr1 := hx.2.1; have hr2 := hy.2.1
  rw [hnb] at hr1
  rw [hmb] at hr2
  rw [hnl] at hq1 hm1
  rw [hml] at hq2
  rw [hT, hU, hnb, hnl, hmb, hml]
  have hbb := fun o1 o2 => ((Below.refl w.heap.size w).alloc (Nat.le_refl _) o1).alloc (by simp) o2
  have hb0 := hbb (.cells #[.int .i64 T, .slice ab nb cb, .slice al nl cl] 25) (.cells #[.int .i64 U, .slice ab' mb cb', .slice al' ml cl'] 25)
  have q1 : Trip ((w.alloc (.cells #[.int .i64 T, .slice ab nb cb, .slice al nl cl] 25)).alloc (.cells #[.int .i64 U, .slice ab' mb cb', .slice al' ml cl'] 25)) w.heap.size 25 (.int .i64 T) (.slice ab nb cb) (.slice al nl cl) := (Trip.new w _ _ _ _).alloc _
  have q2 : Trip ((w.alloc (.cells #[.int .i64 T, .slice ab nb cb, .slice al nl cl] 25)).alloc (.cells #[.int .i64 U, .slice ab' mb cb', .slice al' ml cl'] 25)) (w.heap.size + 1) 25 (.int .i64 U) (.slice ab' mb cb') (.slice al' ml cl') := by
    have := Trip.new (w.alloc (.cells #[.int .i64 T, .slice ab nb cb, .slice al nl cl] 25)) 25 (.int .i64 U) (.slice ab' mb cb') (.slice al' ml cl')
    rwa [World.size_alloc] at this
  have kb1 := (hr1.below hb0).convert
  have kb2 := (hr2.below hb0).convert
  have hs := str_eq hr1.all_byte hr2.all_byte
  obtain ⟨S1, hS1⟩ : ∃ S, strOfNums x.b = S := ⟨_, rfl⟩
  obtain ⟨S2, hS2⟩ : ∃ S, strOfNums y.b = S := ⟨_, rfl⟩
  rw [hS1] at kb1 hs
  rw [hS2] at kb2 hs
  obtain ⟨E, hE⟩ : ∃ E, decide (x.b = y.b) = E := ⟨_, rfl⟩
  rw [hE] at hs ⊢
  have HNL := Lib.hid hnl; have HML := Lib.hid hml; have HQ1 := Lib.hid hq1; have HQ2 := Lib.hid hq2; have HP := Lib.hid hP; have HB0 := Lib.hid hb0; have Q1 := Lib.hid q1; have Q2 := Lib.hid q2
  clear hnb hnl hmb hml hT hU hx hy hq1 hq2 hr1 hr2 hP hS1 hS2 hE hbb hb0 q1 q2
  by_cases ht : T = U
  case neg =>
    have ht' : (T != U) = true := by simpa using ht
    go_enter Tryd.func18, Tryd.ntmps18
    go_wp2_with fail
    go_ret
    exact ⟨by simp [ht], HB0.out⟩
  subst ht
  rw [decide_eq_true rfl, Bool.true_and]
  cases E with
  | false =>
    go_enter Tryd.func18, Tryd.ntmps18
    go_wp2_with fail
    go_ret
    exact ⟨rfl, HB0.out⟩
  | true =>
    rw [Bool.true_and]
    by_cases hln : nl = ml
    case neg =>
      have hE : Dm.eqIts x.l y.l = false := Dm.eqIts_len (by rw [HNL.out, HML.out]; exact hln)
      have hln' : ((nl : Int) != (ml : Int)) = true := by simp; omega
      go_enter Tryd.func18, Tryd.ntmps18
      go_wp2_with fail
      go_ret
      exact ⟨by rw [hE]; rfl, HB0.out⟩
    subst hln
    go_enter Tryd.func18, Tryd.ntmps18
    go_wp2_with fail
    go_loopw [5] (fun i wr => ∃ k : Nat, i = .int .i64 k ∧ k ≤ nl ∧ Dm.eqIts x.l y.l = Dm.eqIts (x.l.drop k) (y.l.drop k) ∧ Trip wr w.heap.size 25 (.int .i64 T) (.slice ab nb cb) (.slice al nl cl) ∧ Trip wr (w.heap.size + 1) 25 (.int .i64 T) (.slice ab' mb cb') (.slice al' nl cl') ∧ Below w.heap.size w wr) (fun i _ => nl - (intOf i).toNat)
    case atStart => exact ⟨0, rfl, Nat.zero_le _, rfl, Q1.out, Q2.out, HB0.out⟩
    case round =>
      obtain ⟨k, rfl, hk, heq, t1, t2, hb⟩ := hrel
      have k0 : (0 : Int) ≤ (k : Int) := by omega
      have c2 := t1.cell2; have d2 := t2.cell2
      have T1 := Lib.hid t1; have T2 := Lib.hid t2
      clear t1 t2 kb1 kb2 hs
      by_cases hlt : k < nl
      · have k1 : (k : Int) < (nl : Int) := by omega
        have e1 : IntKind.i64.wrap ((k : Int) + 1) = (k : Int) + 1 := IntWalk.i64_in _ (by omega)
        obtain ⟨b, off, ab2, cb2, al2, cl2, rfl, hbl, x0, x1, x2, hpx⟩ := HQ1.out.at_ k (by rw [HNL.out]; exact hlt)
        obtain ⟨b', off', ab3, cb3, al3, cl3, rfl, hbl', y0, y1, y2, hpy⟩ := HQ2.out.at_ k (by rw [HML.out]; exact hlt)
        have hst := Dm.eqIts_drop (l := x.l) (m := y.l) (k := k) (by rw [HNL.out]; exact hlt) (by rw [HML.out]; exact hlt)
        have x0 := (hb.cell (p := ⟨b, _, none⟩) hbl).trans x0
        have x1 := (hb.cell (p := ⟨b, _, none⟩) hbl).trans x1
        have x2 := (hb.cell (p := ⟨b, _, none⟩) hbl).trans x2
        have y0 := (hb.cell (p := ⟨b', _, none⟩) hbl').trans y0
        have y1 := (hb.cell (p := ⟨b', _, none⟩) hbl').trans y1
        have y2 := (hb.cell (p := ⟨b', _, none⟩) hbl').trans y2
        have hmem : x.l[k]?.getD Dm.no ∈ x.l := by rw [List.getElem?_eq_getElem (by rw [HNL.out]; exact hlt)]; exact List.getElem_mem _
        obtain ⟨x', hx'⟩ : ∃ y, x.l[k]?.getD Dm.no = y := ⟨_, rfl⟩
        obtain ⟨y', hy'⟩ : ∃ z, y.l[k]?.getD Dm.no = z := ⟨_, rfl⟩
        rw [hx'] at x0 x1 x2 hpx hst hmem
        rw [hy'] at y0 y1 y2 hpy hst
        have hC := fun W (h : Below wr.heap.size wr W) => (HP.out x' hmem) y' W _ _ _ _ ((hpx.below hb).below h) ((hpy.below hb).below h)
        obtain ⟨F, hF⟩ : ∃ F, Dm.eqIt x' y' = F := ⟨_, rfl⟩
        rw [hF] at hC hst
        rw [hst] at heq
        have HEq := Lib.hid heq; have HB := Lib.hid hb
        clear hx' hy' hmem hpx hpy heq hst hb hF
        have q_c2 := cell_regrown c2; have q_d2 := cell_regrown d2
        have q_x0 := cell_regrown x0; have q_x1 := cell_regrown x1; have q_x2 := cell_regrown x2
        have q_y0 := cell_regrown y0; have q_y1 := cell_regrown y1; have q_y2 := cell_regrown y2
        have q1 : ∀ d os, Calls Tryd.prog 18 #[.agg #[.int .i64 x'.tag, .slice ab2 x'.b.length cb2, .slice al2 x'.l.length cl2], .agg #[.int .i64 y'.tag, .slice ab3 y'.b.length cb3, .slice al3 y'.l.length cl3]] (grow (redrawn wr d) os) fun e w'' => e = .returned (.bool F) ∧ ∃ p : Regrown, w'' = grow (redrawn wr p.d) p.os := fun d os => Calls.regrown_of (hC _ (below_regrown wr d os))
        clear hC
        go_wp2_with fail
        refine wp_region_quiet_below (by kernel_rfl) (by kernel_rfl) ?_
        repeat (go_big_quiet_step (first | with_reducible exact q1 _ _))
        refine wpQuiet_nil ?_
        intro _ hw'
        obtain ⟨⟨dq, osq⟩, hw''⟩ := hw'
        subst hw''
        have hb9 := below_regrown wr dq osq
        have hB3 := HB.out.trans (hb9.mono HB.out.size)
        have t3 := trip_stp T1.out hb9; have t4 := trip_stp T2.out hb9
        have HB3 := Lib.hid hB3; have T3 := Lib.hid t3; have T4 := Lib.hid t4
        clear hb9 hB3 t3 t4 q1 q_c2 q_d2 q_x0 q_x1 q_x2 q_y0 q_y1 q_y2 x0 x1 x2 y0 y1 y2 c2 d2
        cases F with
        | false =>
          go_wp2_with fail
          go_ret
          exact ⟨by rw [HEq.out]; rfl, HB3.out⟩
        | true =>
          have heq2 : Dm.eqIts x.l y.l = Dm.eqIts (x.l.drop (k + 1)) (y.l.drop (k + 1)) := by rw [HEq.out]; rfl
          have HEq2 := Lib.hid heq2
          clear heq2
          go_wp2_with fail
          go_roundw
          case rel => exact ⟨k + 1, by go_num, by omega, HEq2.out, T3.out, T4.out, HB3.out⟩
          case measure => simp [intOf]; omega
      · obtain rfl : k = nl := by omega
        have hE : Dm.eqIts x.l y.l = true := by
          rw [heq, List.drop_eq_nil_of_le (by rw [HNL.out]; exact Nat.le_refl _), List.drop_eq_nil_of_le (by rw [HML.out]; exact Nat.le_refl _)]; rfl
        clear heq
        go_wp2_with fail
        go_ret
        exact ⟨by rw [hE]; rfl, hb⟩
theorem rsame_le : ∀ (n : Nat) (x : Dm.It), Dm.wt x ≤ n → RSameOn x
  | 0, x, h => by have := Dm.wt_eq x; omega
  | n + 1, x, h => rsame_of x fun y hy => rsame_le n y (by have := Dm.wt_eq x; have := Dm.wts_mem hy; omega)
theorem RSame_any (x : Dm.It) : RSameOn x := rsame_le _ x (Nat.le_refl _)
end Go.Proofs.YtpmiihmhfagfoaaDoor
