/-
  Walks over greatsealref02: Mix, Sum.
-/
import Derived.Test.YtiijlakilogekaaGa
import Derived.Test.YtiijlakilogekaaFq
import Derived.Test.YtiijlakilogekaaHs
import Derived.Test.YtiijlakilogekaaWt
namespace Go.Proofs.Ytiijlakilogekaa
open Go.RowKit

set_option maxRecDepth 100000 in
set_option maxHeartbeats 2000000 in
theorem RMix_any (s : Hm.St) (w : World) (ua : U64 s.a) (ub : U64 s.b) (uc : U64 s.c) :
    Calls Try.prog 39 #[.agg #[.int .u64 s.a, .int .u64 s.b, .int .u64 s.c]] w fun e w' => e = .returned (.agg #[.int .u64 (Hm.mix s).a, .int .u64 (Hm.mix s).b, .int .u64 (Hm.mix s).c]) ∧ Below w.heap.size w w' := by
  have RU := Lib.hid (rounds_U64 s ua ub uc)
  obtain ⟨B, hB⟩ : ∃ B, w.heap.size = B := ⟨_, rfl⟩
  have i0 := (Trip.new w 57 (.int .u64 s.a) (.int .u64 s.b) (.int .u64 s.c)).alloc (.cells #[.int .u64 0, .int .u64 0, .int .u64 0] 57)
  have i1 := Trip.new (w.alloc (.cells #[.int .u64 s.a, .int .u64 s.b, .int .u64 s.c] 57)) 57 (.int .u64 0) (.int .u64 0) (.int .u64 0)
  have ib : Below w.heap.size w ((w.alloc (.cells #[.int .u64 s.a, .int .u64 s.b, .int .u64 s.c] 57)).alloc (.cells #[.int .u64 0, .int .u64 0, .int .u64 0] 57)) := ((Below.refl _ w).alloc (Nat.le_refl _) _).alloc (by simp) _
  simp only [World.size_alloc] at i1
  rw [hB] at i0 i1 ib
  go_enter Try.func39, Try.ntmps39
  go_wp2_with fail
  (try rw [hB])
  go_loopw [3] (fun i wr => ∃ k : Nat, k ≤ 8 ∧ i = .int .i64 k ∧ Trip wr B 57 (.int .u64 (Hm.rounds k s).a) (.int .u64 (Hm.rounds k s).b) (.int .u64 (Hm.rounds k s).c) ∧ Trip wr (B + 1) 57 (.int .u64 0) (.int .u64 0) (.int .u64 0) ∧ Below B w wr) (fun i _ => (8 - intOf i).toNat)
  case atStart => exact ⟨0, by omega, rfl, i0, i1, ib⟩
  case round =>
    obtain ⟨k, hk, rfl, ht, hr, hb⟩ := hrel
    clear i0 i1 ib
    by_cases hlt : k < 8
    · obtain ⟨u1, u2, u3⟩ := RU.out k
      have hs : Hm.rounds (k + 1) s = Hm.round k ⟨(Hm.rounds k s).a, (Hm.rounds k s).b, (Hm.rounds k s).c⟩ := rfl
      obtain ⟨a, ea⟩ : ∃ a, (Hm.rounds k s).a = a := ⟨_, rfl⟩
      obtain ⟨b, eb⟩ : ∃ b, (Hm.rounds k s).b = b := ⟨_, rfl⟩
      obtain ⟨c, ec⟩ : ∃ c, (Hm.rounds k s).c = c := ⟨_, rfl⟩
      rw [ea, eb, ec] at ht hs
      rw [ea] at u1; rw [eb] at u2; rw [ec] at u3
      clear ea eb ec
      have HS := Lib.hid hs
      obtain ⟨p, ep⟩ : ∃ p, Hm.round k ⟨a, b, c⟩ = p := ⟨_, rfl⟩
      rw [ep] at HS
      clear hs
      have c0 := ht.cell0; have c1 := ht.cell1; have c2 := ht.cell2
      go_wp2_with fail
      refine (RRound_any k a b c _ hlt u1 u2 u3).mono ?_; rintro e w1 ⟨rfl, hb1⟩
      rw [ep]
      have ht1 := ht.kept hb1 ht.lt
      have hr1 := hr.kept hb1 hr.lt
      have hbb := hb.trans (hb1.mono (by have := ht.lt; omega))
      clear c0 c1 c2 ht hr hb hb1
      have c0 := ht1.cell0; have c1 := ht1.cell1; have c2 := ht1.cell2
      have f0 := ht1.free 0; have f1 := ht1.free 1; have f2 := ht1.free 2
      go_wp2_with fail
      go_roundw
      case rel =>
        refine ⟨k + 1, by omega, by go_num, ?_, ((hr1.other (by simp <;> omega) _).other (by simp <;> omega) _).other (by simp <;> omega) _, ((hbb.setCell (by simp) _).setCell (by simp) _).setCell (by simp) _⟩
        rw [HS.out]
        exact ((ht1.set0 _).set1 _).set2 _
      case measure => simp [intOf]; omega
    · obtain rfl : k = 8 := by omega
      have c0 := ht.cell0; have c1 := ht.cell1; have c2 := ht.cell2
      have d0 := hr.cell0; have d1 := hr.cell1; have d2 := hr.cell2
      have g0 := hr.free 0; have g1 := hr.free 1; have g2 := hr.free 2
      go_wp2_with fail
      have hz : Trip (((wr.setCell ⟨B + 1, 0, none⟩ (.int .u64 (Hm.rounds 8 s).a)).setCell ⟨B + 1, 1, none⟩ (.int .u64 (Hm.rounds 8 s).b)).setCell ⟨B + 1, 2, none⟩ (.int .u64 (Hm.rounds 8 s).c)) (B + 1) 57 (.int .u64 (Hm.rounds 8 s).a) (.int .u64 (Hm.rounds 8 s).b) (.int .u64 (Hm.rounds 8 s).c) := ((hr.set0 _).set1 _).set2 _
      refine bodyPost_ret (v := .agg #[.int .u64 (Hm.mix s).a, .int .u64 (Hm.mix s).b, .int .u64 (Hm.mix s).c]) ?_ rfl ⟨rfl, ?_⟩
      · exact results_cell_row (p := 2) (ty := 57) rfl _ _ (B + 1) _ _ _ _ rfl hz rfl rfl rfl
      · rw [hB]; exact ((hb.setCell (by simp) _).setCell (by simp) _).setCell (by simp) _

theorem drop_two (E : List Int) (n : Nat) (q : List Int) (x y : Int) (h : E.drop n = x :: y :: q) : E[n]?.getD 0 = x ∧ E[n + 1]?.getD 0 = y ∧ E.drop (n + 2) = q ∧ n + 1 < E.length := by
  have h0 : (E.drop n)[0]? = some x := by rw [h]; rfl
  have h1 : (E.drop n)[1]? = some y := by rw [h]; rfl
  rw [List.getElem?_drop] at h0 h1
  have hl : (E.drop n).length = q.length + 2 := by rw [h]; rfl
  simp at hl
  refine ⟨by rw [show n = n + 0 by omega, h0]; rfl, by rw [h1]; rfl, ?_, by omega⟩
  rw [← List.drop_drop, h]; rfl
theorem drop_one (E : List Int) (n : Nat) (x : Int) (h : E.drop n = [x]) : E[n]?.getD 0 = x ∧ E.drop (n + 2) = [] ∧ n + 1 = E.length := by
  have h0 : (E.drop n)[0]? = some x := by rw [h]; rfl
  rw [List.getElem?_drop] at h0
  have hl : (E.drop n).length = 1 := by rw [h]; rfl
  simp at hl
  exact ⟨by rw [show n = n + 0 by omega, h0]; rfl, List.drop_eq_nil_of_le (by omega), by omega⟩
/-- One of a row's numbers: its cell. -/
theorem Row.cellAt {k : IntKind} {w : World} {a : Option Addr} {n c : Nat} {l : List Int} (h : Row k w (.slice a n c) l) (i : Nat) (hi : i < l.length) : ∃ b o, a = some ⟨b, o, none⟩ ∧ b < w.heap.size ∧ w.cell? ⟨b, o + i, none⟩ = some (.int k (l[i]?.getD 0)) ∧ (Lit.int k (l[i]?.getD 0)).wf = true := by
  obtain ⟨a', c', e, h1, h2, h3, h4, h5⟩ := h
  cases e
  obtain ⟨b, o, e, hb, hc⟩ := h5 (by rintro rfl; simp at hi)
  exact ⟨b, o, e, hb, hc i hi, h4 _ (by rw [List.getElem?_eq_getElem hi]; exact List.getElem_mem hi)⟩

set_option maxRecDepth 100000 in
set_option maxHeartbeats 4000000 in
theorem RSum_any (v : Value) (l : List Int) (w : World) (h : Row .u8 w v l) (hlen : l.length ≤ 1000000) :
    Calls Try.prog 29 #[v] w fun e w' => e = .returned (.agg #[.int .u64 (Hm.sum l).a, .int .u64 (Hm.sum l).b]) ∧ Below w.heap.size w w' := by
  obtain ⟨a1, c1, rfl⟩ := h.shape l.length rfl
  obtain ⟨B, hB⟩ : ∃ B, w.heap.size = B := ⟨_, rfl⟩
  have dR := Duo.new w 52 (.int .u64 0) (.int .u64 0)
  have u0 := Lib.hid (show U64 (l.length : Int) from ⟨by omega, by omega⟩)
  have eu : IntKind.u64.wrap (l.length : Int) = l.length := IntWalk.u64_in _ (by omega)
  have hel : (elems l).length ≤ l.length := by rw [elems_length]; omega
  have hst := Hm.rest_start l
  obtain ⟨E, hE⟩ : ∃ E, elems l = E := ⟨_, rfl⟩
  obtain ⟨M, hM⟩ : ∃ M, Hm.sum l = M := ⟨_, rfl⟩
  rw [hE] at hel hst
  rw [hM] at hst ⊢
  have bE : E.length ≤ 1000000 := by omega
  have HE := Lib.hid hE; have HST := Lib.hid hst
  clear hE hst hM hel
  go_enter Try.func29, Try.ntmps29
  go_wp2_with fail
  refine (ROf_any _ l _ (h.alloc _) hlen).mono ?_; rintro e w1 ⟨r, rfl, hr, hb1⟩
  rw [HE.out] at hr
  have hB1 := bel_stp (bel_alloc (Below.refl _ w) _) hb1
  have dR1 := dR.stp hb1
  obtain ⟨ar, cr, rfl⟩ := hr.shape E.length rfl
  obtain ⟨G, hG⟩ : ∃ G, w1.heap.size = G := ⟨_, rfl⟩
  have off : Off G (.slice ar E.length cr) := hr.off (by omega)
  have t0 := Trip.new w1 57 (.int .u64 0) (.int .u64 0) (.int .u64 l.length)
  have hBG : B < G := by have := dR1.lt; omega
  have hr2 := hr.alloc (.cells #[.int .u64 0, .int .u64 0, .int .u64 l.length] 57)
  have dR2 := dR1.alloc (.cells #[.int .u64 0, .int .u64 0, .int .u64 l.length] 57)
  have hB2 := bel_alloc hB1 (.cells #[.int .u64 0, .int .u64 0, .int .u64 l.length] 57)
  clear h hb1 dR dR1 hB1 hr
  go_wp2_with fail
  rw [hB] at dR2 hB2
  rw [hG] at t0
  (try rw [hB]); (try rw [hG])
  go_loopw [5] (fun i wr => ∃ (n : Nat) (s : Hm.St), i = .int .i64 n ∧ n ≤ E.length + 2 ∧ U64 s.a ∧ U64 s.b ∧ U64 s.c ∧ Hid (Hm.rest (decide (n = 0)) (E.drop n) s = M) ∧ Row .u64 wr (.slice ar E.length cr) E ∧
    Trip wr G 57 (.int .u64 s.a) (.int .u64 s.b) (.int .u64 s.c) ∧ Duo wr B 52 (.int .u64 0) (.int .u64 0) ∧ Below B w wr) (fun i _ => E.length + 3 - (intOf i).toNat)
  case atStart => exact ⟨0, Hm.start l.length, rfl, by omega, ⟨by simp [Hm.start], by simp [Hm.start]⟩, ⟨by simp [Hm.start], by simp [Hm.start]⟩, u0.out, Lib.hid HST.out, hr2, t0, dR2, hB2⟩
  case round =>
    obtain ⟨n, s, rfl, hn, ua, ub, uc, He, hr, ht, hd, hb⟩ := hrel
    clear t0 dR2 hB2 hr2 eu
    have s0 := ht.cell0; have s1 := ht.cell1; have s2 := ht.cell2
    have f0 := ht.free 0; have f1 := ht.free 1; have f2 := ht.free 2
    have lt := ht.lt
    have en : IntKind.i64.wrap ((n : Int) + 2) = (n : Int) + 2 := IntWalk.i64_in _ (by omega)
    have en1 : IntKind.i64.wrap ((n : Int) + 1) = (n : Int) + 1 := IntWalk.i64_in _ (by omega)
    obtain ⟨q, hq⟩ : ∃ q, E.drop n = q := ⟨_, rfl⟩
    rw [hq] at He
    rcases q with _ | ⟨x, _ | ⟨y, t⟩⟩
    · have hne : E.length ≤ n := by
        have : (E.drop n).length = 0 := by rw [hq]; rfl
        simp at this; omega
      have hnl : ¬ n < E.length := by omega
      have hq2 : E.drop (n + 2) = [] := List.drop_eq_nil_of_le (by omega)
      have HQ2 := Lib.hid hq2
      clear hq hq2
      by_cases h0 : n = 0
      · have H0 := Lib.hid h0
        have hnz : ((n : Int) == 0) = true := by rw [beq_iff_eq]; omega
        have hn1' : ¬ (n : Int) + 1 < (E.length : Int) := by omega
        have hnl2 : (decide (n < E.length)) = false := decide_eq_false hnl
        have hb0 : n ≤ E.length := by omega
        clear h0 hne
        go_wp2_with fail
        obtain ⟨m, hm⟩ : ∃ m, Hm.mix ⟨s.a, s.b, s.c⟩ = m := ⟨_, rfl⟩
        have hmk := Hm.mix_ok ⟨s.a, s.b, s.c⟩
        rw [hm] at hmk
        have UM := Lib.hid (show U64 m.a ∧ U64 m.b ∧ U64 m.c from ⟨U64.of_rng hmk.1, U64.of_rng hmk.2.1, U64.of_rng hmk.2.2⟩)
        have HE2 : Hid (Hm.rest (decide (n + 2 = 0)) (E.drop (n + 2)) m = M) := Lib.hid (by
          have h := He.out
          rw [show decide (n = 0) = true from decide_eq_true H0.out, Hm.rest_none] at h
          rw [HQ2.out, ← h, ← hm]
          simp [Hm.rest])
        clear hmk
        refine (RMix_any ⟨s.a, s.b, s.c⟩ _ ua ub uc).mono ?_; rintro e w2 ⟨rfl, hb2⟩
        rw [hm]
        have ht2 := ht.kept hb2 ht.lt
        have hd2 := hd.kept hb2 hd.lt
        have hr2 := hr.below hb2
        have hbb := hb.trans (hb2.mono (by have := hd.lt; omega))
        clear s0 s1 s2 f0 f1 f2 lt ht hd hr hb hb2 hm
        have s0 := ht2.cell0; have s1 := ht2.cell1; have s2 := ht2.cell2
        have f0 := ht2.free 0; have f1 := ht2.free 1; have f2 := ht2.free 2
        have lt2 := ht2.lt
        go_wp2_with fail
        go_roundw
        case rel =>
          exact ⟨n + 2, m, by go_num, by omega, UM.out.1, UM.out.2.1, UM.out.2.2, HE2, ((hr2.aside off _).aside off _).aside off _, ((ht2.set0 _).set1 _).set2 _, ((hd2.other (by simp <;> omega) _).other (by simp <;> omega) _).other (by simp <;> omega) _, ((hbb.setCell (by simp <;> omega) _).setCell (by simp <;> omega) _).setCell (by simp <;> omega) _⟩
        case measure => simp [intOf]; omega
      · have hM : s = M := by have := He.out; simpa [Hm.rest, h0, Hm.absorb] using this
        subst hM
        have hnz : ((n : Int) == 0) = false := by rw [beq_eq_false_iff_ne]; omega
        have hnl2 : (decide (n < E.length)) = false := decide_eq_false hnl
        have d0 := hd.cell0; have d1 := hd.cell1; have g0 := hd.free 0; have g1 := hd.free 1
        go_wp2_with fail
        have hz : Duo ((wr.setCell ⟨B, 0, none⟩ (.int .u64 s.a)).setCell ⟨B, 1, none⟩ (.int .u64 s.b)) B 52 (.int .u64 s.a) (.int .u64 s.b) := (hd.set0 _).set1 _
        refine bodyPost_ret (v := .agg #[.int .u64 s.a, .int .u64 s.b]) ?_ rfl ⟨rfl, by rw [hB]; exact (hb.setCell (by simp) _).setCell (by simp) _⟩
        exact results_cell_row (p := 2) (ty := 52) rfl _ _ B _ _ _ _ rfl hz rfl rfl rfl
    · obtain ⟨ex, eq, el⟩ := drop_one E n x hq
      obtain ⟨br, orr, rfl, hbr, hcr, hwr⟩ := hr.cellAt n (by omega)
      rw [ex] at hcr hwr
      have HQ2 := Lib.hid eq
      have ux := Lib.hid (U64.of_wf hwr)
      have UAx := Lib.hid (U64.of_rng (Fm.add_rng s.a x))
      have hn1 : ¬ n + 1 < E.length := by omega
      have hn1' : ¬ (n : Int) + 1 < (E.length : Int) := by omega
      clear hq ex eq hwr
      go_wp2_with fail
      go_region_with (go_at_call 38; refine (RAdd_any s.a x _ ua ux.out).mono ?_; rintro e w' ⟨rfl, rfl⟩)
      all_goals
        have ht' : Trip (World.drew (wr.setCell ⟨G, 0, none⟩ (.int .u64 (Fm.add s.a x)))) G 57 _ _ _ := ht.set0 (.int .u64 (Fm.add s.a x))
        have hr' : Row .u64 (World.drew (wr.setCell ⟨G, 0, none⟩ (.int .u64 (Fm.add s.a x)))) (.slice (some ⟨br, orr, none⟩) E.length cr) E := hr.aside off (.int .u64 (Fm.add s.a x))
        have hd' : Duo (World.drew (wr.setCell ⟨G, 0, none⟩ (.int .u64 (Fm.add s.a x)))) B 52 (.int .u64 0) (.int .u64 0) := hd.other (p := ⟨G, 0, none⟩) (by simp <;> omega) (.int .u64 (Fm.add s.a x))
        have hb' : Below B w (World.drew (wr.setCell ⟨G, 0, none⟩ (.int .u64 (Fm.add s.a x)))) := (hb.setCell (p := ⟨G, 0, none⟩) (by simp <;> omega) (.int .u64 (Fm.add s.a x))).drew
        clear s0 s1 s2 f0 f1 f2 ht hr hd hb lt hcr
        generalize World.drew (wr.setCell ⟨G, 0, none⟩ (.int .u64 (Fm.add s.a x))) = wr1 at *
        have ht := ht'; have hr := hr'; have hd := hd'; have hb := hb'; clear ht' hr' hd' hb'
        have s0 := ht.cell0; have s1 := ht.cell1; have s2 := ht.cell2
        have f0 := ht.free 0; have f1 := ht.free 1; have f2 := ht.free 2
        have lt := ht.lt
        go_wp2_with fail
        obtain ⟨m, hm⟩ : ∃ m, Hm.mix ⟨Fm.add s.a x, s.b, s.c⟩ = m := ⟨_, rfl⟩
        have hmk := Hm.mix_ok ⟨Fm.add s.a x, s.b, s.c⟩
        rw [hm] at hmk
        have UM := Lib.hid (show U64 m.a ∧ U64 m.b ∧ U64 m.c from ⟨U64.of_rng hmk.1, U64.of_rng hmk.2.1, U64.of_rng hmk.2.2⟩)
        have HE2 : Hid (Hm.rest (decide (n + 2 = 0)) (E.drop (n + 2)) m = M) := Lib.hid (by
          have h := He.out
          rw [Hm.rest_one] at h
          rw [HQ2.out, ← h, ← hm]
          simp [Hm.rest])
        clear hmk
        refine (RMix_any ⟨Fm.add s.a x, s.b, s.c⟩ _ UAx.out ub uc).mono ?_; rintro e w2 ⟨rfl, hb2⟩
        rw [hm]
        have ht2 := ht.kept hb2 ht.lt
        have hd2 := hd.kept hb2 hd.lt
        have hr2 := hr.below hb2
        have hbb := hb.trans (hb2.mono (by have := hd.lt; omega))
        clear s0 s1 s2 f0 f1 f2 ht hd hr hb hb2 hm
        have s0 := ht2.cell0; have s1 := ht2.cell1; have s2 := ht2.cell2
        have f0 := ht2.free 0; have f1 := ht2.free 1; have f2 := ht2.free 2
        have lt2 := ht2.lt
        go_wp2_with fail
        go_roundw
        case rel =>
          exact ⟨n + 2, m, by go_num, by omega, UM.out.1, UM.out.2.1, UM.out.2.2, HE2, ((hr2.aside off _).aside off _).aside off _, ((ht2.set0 _).set1 _).set2 _, ((hd2.other (by simp <;> omega) _).other (by simp <;> omega) _).other (by simp <;> omega) _, ((hbb.setCell (by simp <;> omega) _).setCell (by simp <;> omega) _).setCell (by simp <;> omega) _⟩
        case measure => simp [intOf]; omega
    · obtain ⟨ex, ey, eq, el⟩ := drop_two E n t x y hq
      obtain ⟨br, orr, rfl, hbr, hcr, hwr⟩ := hr.cellAt n (by omega)
      rw [ex] at hcr hwr
      have HQ2 := Lib.hid eq
      have HEy := Lib.hid ey
      have ux := Lib.hid (U64.of_wf hwr)
      have UAx := Lib.hid (U64.of_rng (Fm.add_rng s.a x))
      have UBy := Lib.hid (U64.of_rng (Fm.add_rng s.b y))
      have hn0 : n < E.length := by omega
      have hn1' : (n : Int) + 1 < (E.length : Int) := by omega
      clear hq ex ey eq hwr
      go_wp2_with fail
      go_region_with (go_at_call 38; refine (RAdd_any s.a x _ ua ux.out).mono ?_; rintro e w' ⟨rfl, rfl⟩)
      all_goals
        have ht' : Trip (World.drew (wr.setCell ⟨G, 0, none⟩ (.int .u64 (Fm.add s.a x)))) G 57 _ _ _ := ht.set0 (.int .u64 (Fm.add s.a x))
        have hr' : Row .u64 (World.drew (wr.setCell ⟨G, 0, none⟩ (.int .u64 (Fm.add s.a x)))) (.slice (some ⟨br, orr, none⟩) E.length cr) E := hr.aside off (.int .u64 (Fm.add s.a x))
        have hd' : Duo (World.drew (wr.setCell ⟨G, 0, none⟩ (.int .u64 (Fm.add s.a x)))) B 52 (.int .u64 0) (.int .u64 0) := hd.other (p := ⟨G, 0, none⟩) (by simp <;> omega) (.int .u64 (Fm.add s.a x))
        have hb' : Below B w (World.drew (wr.setCell ⟨G, 0, none⟩ (.int .u64 (Fm.add s.a x)))) := (hb.setCell (p := ⟨G, 0, none⟩) (by simp <;> omega) (.int .u64 (Fm.add s.a x))).drew
        clear s0 s1 s2 f0 f1 f2 ht hr hd hb lt hcr
        generalize World.drew (wr.setCell ⟨G, 0, none⟩ (.int .u64 (Fm.add s.a x))) = wr1 at *
        have ht := ht'; have hr := hr'; have hd := hd'; have hb := hb'; clear ht' hr' hd' hb'
        have s0 := ht.cell0; have s1 := ht.cell1; have s2 := ht.cell2
        have f0 := ht.free 0; have f1 := ht.free 1; have f2 := ht.free 2
        have lt := ht.lt
        obtain ⟨b', o', e', hbr', hcr, hwr⟩ := hr.cellAt (n + 1) el
        cases e'
        rw [HEy.out] at hcr hwr
        have uy := Lib.hid (U64.of_wf hwr)
        clear hwr hbr'
        go_wp2_with fail
        go_region_with (go_at_call 38; refine (RAdd_any s.b y _ ub uy.out).mono ?_; rintro e w' ⟨rfl, rfl⟩)
        all_goals
          have ht' : Trip (World.drew (wr1.setCell ⟨G, 1, none⟩ (.int .u64 (Fm.add s.b y)))) G 57 _ _ _ := ht.set1 (.int .u64 (Fm.add s.b y))
          have hr' : Row .u64 (World.drew (wr1.setCell ⟨G, 1, none⟩ (.int .u64 (Fm.add s.b y)))) (.slice (some ⟨br, orr, none⟩) E.length cr) E := hr.aside off (.int .u64 (Fm.add s.b y))
          have hd' : Duo (World.drew (wr1.setCell ⟨G, 1, none⟩ (.int .u64 (Fm.add s.b y)))) B 52 (.int .u64 0) (.int .u64 0) := hd.other (p := ⟨G, 1, none⟩) (by simp <;> omega) (.int .u64 (Fm.add s.b y))
          have hb' : Below B w (World.drew (wr1.setCell ⟨G, 1, none⟩ (.int .u64 (Fm.add s.b y)))) := (hb.setCell (p := ⟨G, 1, none⟩) (by simp <;> omega) (.int .u64 (Fm.add s.b y))).drew
          clear s0 s1 s2 f0 f1 f2 ht hr hd hb lt hcr
          generalize World.drew (wr1.setCell ⟨G, 1, none⟩ (.int .u64 (Fm.add s.b y))) = wr2 at *
          have ht := ht'; have hr := hr'; have hd := hd'; have hb := hb'; clear ht' hr' hd' hb'
          have s0 := ht.cell0; have s1 := ht.cell1; have s2 := ht.cell2
          have f0 := ht.free 0; have f1 := ht.free 1; have f2 := ht.free 2
          have lt := ht.lt
          go_wp2_with fail
          obtain ⟨m, hm⟩ : ∃ m, Hm.mix ⟨Fm.add s.a x, Fm.add s.b y, s.c⟩ = m := ⟨_, rfl⟩
          have hmk := Hm.mix_ok ⟨Fm.add s.a x, Fm.add s.b y, s.c⟩
          rw [hm] at hmk
          have UM := Lib.hid (show U64 m.a ∧ U64 m.b ∧ U64 m.c from ⟨U64.of_rng hmk.1, U64.of_rng hmk.2.1, U64.of_rng hmk.2.2⟩)
          have HE2 : Hid (Hm.rest (decide (n + 2 = 0)) (E.drop (n + 2)) m = M) := Lib.hid (by
            have h := He.out
            rw [Hm.rest_two] at h
            rw [HQ2.out, ← h, ← hm]
            simp [Hm.rest])
          clear hmk
          refine (RMix_any ⟨Fm.add s.a x, Fm.add s.b y, s.c⟩ _ UAx.out UBy.out uc).mono ?_; rintro e w2 ⟨rfl, hb2⟩
          rw [hm]
          have ht2 := ht.kept hb2 ht.lt
          have hd2 := hd.kept hb2 hd.lt
          have hr2 := hr.below hb2
          have hbb := hb.trans (hb2.mono (by have := hd.lt; omega))
          clear s0 s1 s2 f0 f1 f2 ht hd hr hb hb2 hm
          have s0 := ht2.cell0; have s1 := ht2.cell1; have s2 := ht2.cell2
          have f0 := ht2.free 0; have f1 := ht2.free 1; have f2 := ht2.free 2
          have lt2 := ht2.lt
          go_wp2_with fail
          go_roundw
          case rel =>
            exact ⟨n + 2, m, by go_num, by omega, UM.out.1, UM.out.2.1, UM.out.2.2, HE2, ((hr2.aside off _).aside off _).aside off _, ((ht2.set0 _).set1 _).set2 _, ((hd2.other (by simp <;> omega) _).other (by simp <;> omega) _).other (by simp <;> omega) _, ((hbb.setCell (by simp <;> omega) _).setCell (by simp <;> omega) _).setCell (by simp <;> omega) _⟩
          case measure => simp [intOf]; omega
end Go.Proofs.Ytiijlakilogekaa
