/-
  The walk over wal.Fix.
-/
import Derived.Test.YtiijlakilogekaaWi
import Derived.Test.YtiijlakilogekaaRs
import Derived.Test.YtiijlakilogekaaWs
import Derived.Deep.RegionHeld3
namespace Go.Proofs.Ytiijlakilogekaa
open Go.RowKit Go.Shelf
attribute [local go_sem] Oper.semAt_some

theorem below_grows {w w' : World} (h : Below w.heap.size w w') : w.grownBy w' none := ⟨h.os, h.tape, h.output, h.size, fun k hk _ => h.block k hk⟩
theorem frames_in (n : Nat) (a : Option Addr) (len cap : Nat) (w : World) :
    CallsIn Fence.wide n Try.prog 24 #[.slice a len cap] w fun e w' => e = .returned (.func (.func 30) #[] #[.pointer (some ⟨w.heap.size, 0, none⟩)]) ∧ w' = w.alloc (.cells #[.slice a len cap] 22) := by
  refine callsIn_of_wp Try.func24 rfl trivial ?_ rfl
  simp only [Try.ntmps24, List.size_toArray, List.length_cons, List.length_nil, Nat.reduceAdd, Nat.reduceSub, Array.replicate_succ, Array.replicate_zero, List.push_toArray, List.append_toArray, List.nil_append, List.cons_append]
  gi_wp2
  go_ret
  exact ⟨rfl, rfl⟩

set_option maxRecDepth 100000 in
set_option maxHeartbeats 1000000 in
theorem frames1_nil_in (n L Bb cap : Nat) (a : Option Addr) (J : World → Prop) (W : World) (hBb : W.cell? ⟨Bb, 0, none⟩ = some (.slice a 0 cap)) (h0 : J W) :
    CallsIn Fence.wide n Try.prog 30 #[.func (.yield L) #[] #[], .pointer (some ⟨Bb, 0, none⟩)] W fun e W' => (∃ v, e = .returned v) ∧ J W' := by
  refine callsIn_of_wp Try.func30 rfl trivial ?_ rfl
  simp only [Try.ntmps30, List.size_toArray, List.length_cons, List.length_nil, Nat.reduceAdd, Nat.reduceSub, Array.replicate_succ, Array.replicate_zero, List.push_toArray, List.append_toArray, List.nil_append, List.cons_append]
  gi_wp2
  refine wpIn_wide.2 (wp_scope_straight ((wpIn_wide (n := n)).1 ?_))
  gi_wp2
  refine wpIn_label ?_
  gi_wp2
  gi_loopw [3] (fun i wr => i = .int .i64 0 ∧ wr.cell? ⟨Bb, 0, none⟩ = some (.slice a 0 cap) ∧ J wr) (fun _ _ => 0)
  case atStart => exact ⟨rfl, hBb, h0⟩
  case round =>
    obtain ⟨rfl, hc, hJs⟩ := hrel
    gi_wp2
    rw [Exit.noGoto_normal]
    go_end0
    exact ⟨⟨_, rfl⟩, hJs⟩

/-- What yield is handed of a frame. -/
def frEnc (l : List Int) (Bd off cap : Nat) (x : Fr l) : Array Value := #[.slice (some ⟨Bd, off + Wm.pos l x.1 + 4, none⟩) (Wm.long (l.drop (Wm.pos l x.1))) (cap - (Wm.pos l x.1 + 4)), .int .i64 (Wm.pos l (x.1 + 1) : Nat)]

theorem frames_stops (n : Nat) (hn : 1 ≤ n) (Bb Bd off cap : Nat) (a : Option Addr) (l : List Int) (w : World) (hlen : l.length ≤ 100000) (hbo : l.length ≠ 0 → a = some ⟨Bd, off, none⟩)
    (hBb : Boxed w Bb 22 (.slice a l.length cap)) (hrow : Row .u8 w (.slice a l.length cap) l) :
    SeqStopsK Fence.wide n Try.prog 30 #[.pointer (some ⟨Bb, 0, none⟩)] (frEnc l Bd off cap) (KeepsBs Bb Bd)
      (fun ys => ys.map (·.1) = List.range (Wm.read l).length) (fun _ => True) (Wm.read l).length w := fun L J Jx W hW hJ _ hY hJ0 => by
  by_cases h0 : l.length = 0
  · have hl : l = [] := List.length_eq_zero_iff.1 h0
    subst hl
    have hc := hW.cell (p := ⟨Bb, 0, none⟩) hBb.lt
    refine (frames1_nil_in n L Bb cap a (J []) W (hc.trans hBb.cell) hJ0).mono fun e W' ⟨he, hj⟩ => ⟨he, .inl ⟨[], ?_, hj⟩⟩
    have hn : ¬ Wm.whole [] := fun h => by have := h.1; simp at this
    show ([] : List Nat) = List.range (Wm.read []).length
    rw [(Wm.read_not [] hn).1]; rfl
  · obtain rfl := hbo h0
    exact frames1_in n hn L Bb Bd off cap l J Jx hlen (fun pre W1 W2 hj hb => hJ pre W1 W2 none hj (below_grows hb) (fun r e => by cases e)) hY W ((hW.block Bb hBb.lt).trans hBb) (hrow.below hW) hJ0

/-- A slice of numbers, cut behind with its capacity. -/
theorem Row.clip {k : IntKind} {w : World} {a : Option Addr} {n cap : Nat} {l : List Int} (h : Row k w (.slice a n cap) l) (m : Nat) (hm : m ≤ l.length) : Row k w (.slice a m m) (l.take m) := by
  obtain ⟨a', cap', e, hl, hc, hn, hw, hr⟩ := h
  cases e
  have hlen : (l.take m).length = m := by simp; omega
  refine ⟨a, m, by rw [hlen], by omega, by omega, (fun h => by have := hn h; omega), fun x hx => hw x (List.mem_of_mem_take hx), fun hne => ?_⟩
  have hne' : l ≠ [] := by rintro rfl; simp at hne
  obtain ⟨b, off, e, hb, hx⟩ := hr hne'
  exact ⟨b, off, e, hb, fun i hi => by rw [hlen] at hi; rw [hx i (by omega), List.getElem?_take_of_lt hi]⟩
theorem row_own {β : Type} {k : IntKind} {v : Value} {l : List Int} : Own (fun (_ : β) W => Row k W v l) := fun _ A B row hs hg hr => by
  obtain ⟨a, cap, h1, h2, h3, h0, h4, h5⟩ := hs
  refine ⟨a, cap, h1, h2, h3, h0, h4, fun hne => ?_⟩
  obtain ⟨b, off, e, hlt, hc⟩ := h5 hne
  exact ⟨b, off, e, Nat.lt_of_lt_of_le hlt hg.size, fun i hi => cell_kept (hc i hi) hg hr⟩

theorem row_putObj {k : IntKind} {v : Value} {l : List Int} {W : World} {D : Nat} (o' : Obj) (hD : W.heap[D]? = some (.deferred (some []))) (h : Row k W v l) : Row k (W.drew.putObj D o') v l :=
  row_own () W.drew _ (some D) h (grownBy_putObj' W.drew D o') (fun r e => by cases e; exact ⟨_, hD, rfl⟩)

/-- Where the last frame that has come ends. -/
def gval (l : List Int) (pre : List (Fr l)) : Nat := match pre.getLast? with
  | none => 0
  | some x => Wm.pos l (x.1 + 1)
theorem gval_snoc (l : List Int) (pre : List (Fr l)) (x : Fr l) : gval l (pre ++ [x]) = Wm.pos l (x.1 + 1) := by simp [gval]
theorem gval_all (l : List Int) (ys : List (Fr l)) (h : ys.map (·.1) = List.range (Wm.read l).length) : gval l ys = Wm.good l := by
  have hl : ys.length = (Wm.read l).length := by have := congrArg List.length h; simpa using this
  rw [← (Wm.pos_end l).1]
  rcases List.eq_nil_or_concat ys with rfl | ⟨L, x, rfl⟩
  · exact congrArg (Wm.pos l) hl
  · rw [List.concat_eq_append] at h hl ⊢
    rw [gval_snoc]
    have hl' : L.length + 1 = (Wm.read l).length := by simpa using hl
    have h2 := congrArg List.getLast? h
    have h3 : (List.range (Wm.read l).length).getLast? = some L.length := by rw [← hl', List.range_succ]; simp
    rw [h3] at h2
    simp at h2
    exact congrArg (Wm.pos l) (by omega)

set_option maxRecDepth 100000 in
set_option maxHeartbeats 2000000 in
theorem Fix_any (v1 v2 : Value) (S O : List Int) (w : World) (h1 : Row .u8 w v1 S) (h2 : Row .u8 w v2 O) (n1 : S.length ≤ 40000) (n2 : O.length ≤ 40000) :
    Calls Try.prog 15 #[.agg #[v1, v2]] w fun e w' => ∃ x1 x2, e = .returned (.tuple #[.agg #[x1, x2], .int .i64 ((S ++ O).length - Wm.good (S ++ O) : Nat)]) ∧
      Row .u8 w' x1 ((S ++ O).take (min (Wm.good (S ++ O)) S.length)) ∧ Row .u8 w' x2 (((S ++ O).take (Wm.good (S ++ O))).drop (min (Wm.good (S ++ O)) S.length)) ∧ Below w.heap.size w w' := by
  have H1 := Lib.hid h1; have H2 := Lib.hid h2
  obtain ⟨a1, c1, rfl, -⟩ := h1
  obtain ⟨a2, c2, rfl, -⟩ := h2
  obtain ⟨b, hb⟩ : ∃ b, S ++ O = b := ⟨_, rfl⟩
  have HB := Lib.hid hb
  have hbl : b.length = S.length + O.length := by rw [← hb, List.length_append]
  have HBl := Lib.hid hbl
  rw [hb]
  clear hb hbl
  refine (callsIn_wide (n := 6)).1 ?_
  refine callsIn_of_wp_marks Try.func15 rfl trivial ?_ rfl
  simp only [Try.ntmps15, List.size_toArray, List.length_cons, List.length_nil, Nat.reduceAdd, Nat.reduceSub, Array.replicate_succ, Array.replicate_zero, List.push_toArray, List.append_toArray, List.nil_append, List.cons_append]
  gi_wp2_with (first
    | (refine ⟨trivial, ?_⟩; gi_at_call 22; refine (callsIn_wide.2 (all_of _ _ S O b _ (by exact (H1.out.alloc _).alloc _) (by exact (H2.out.alloc _).alloc _) (by omega) (by omega) HB.out)).mono ?_; rintro e w1 ⟨ar, cr, rfl, hrow, hfar, hb1⟩; have HRow := Lib.hid hrow; have HFar := Lib.hid hfar; clear hrow hfar)
    | (refine ⟨trivial, ?_⟩; gi_at_call 24; refine (frames_in _ _ _ _ _).mono ?_; rintro e w' ⟨rfl, rfl⟩))
  obtain ⟨Bd, off, hbo, hBd⟩ : ∃ Bd off, (b.length ≠ 0 → ar = some ⟨Bd, off, none⟩) ∧ Bd < w1.heap.size := by
    by_cases hne : b = []
    · exact ⟨w.heap.size, 0, fun h => absurd (by rw [hne]; rfl) h, by have := hb1.size; simp at this; omega⟩
    · obtain ⟨_, _, e, _, _, _, _, hr⟩ := HRow.out
      cases e
      obtain ⟨Bd, off, e, hb, _⟩ := hr hne
      exact ⟨Bd, off, fun _ => e, hb⟩
  have hsz1 : w.heap.size + 2 ≤ w1.heap.size := by have := hb1.size; simp at this; omega
  have dS : Duo w1 w.heap.size 24 (.slice a1 S.length c1) (.slice a2 O.length c2) := ((Duo.new w 24 (.slice a1 S.length c1) (.slice a2 O.length c2)).alloc (.cells #[.slice none 0 0, .slice none 0 0] 24)).kept hb1 (by simp; omega)
  have dX : Duo w1 (w.heap.size + 1) 24 (.slice none 0 0) (.slice none 0 0) := by
    have h := Duo.new (w.alloc (.cells #[.slice a1 S.length c1, .slice a2 O.length c2] 24)) 24 (.slice none 0 0) (.slice none 0 0)
    rw [World.size_alloc] at h
    exact h.kept hb1 (by simp)
  have hB1 : Below w.heap.size w w1 := (((Below.refl _ w).alloc (Nat.le_refl _) (.cells #[.slice a1 S.length c1, .slice a2 O.length c2] 24)).alloc (by simp) (.cells #[.slice none 0 0, .slice none 0 0] 24)).trans (hb1.mono (by simp; omega))
  have HS := Lib.hid dS; have HX := Lib.hid dX; have HB1 := Lib.hid hB1; have Hbo := Lib.hid hbo
  clear dS dX hB1 hbo hb1
  have bG := Boxed.new w1 3 (.int .i64 0)
  have bF := Boxed.new (w1.alloc (.cells #[.int .i64 0] 3)) 22 (.slice ar b.length cr)
  simp only [World.size_alloc] at bF
  refine wpIn_rangeFunc_ownG rfl (by omega) (gf := 30) (lb := #[.pointer (some ⟨w1.heap.size + 1, 0, none⟩)]) rfl trivial (enters_of Try.func30 (by kernel_rfl) rfl)
    (frames_stops _ (by omega) (w1.heap.size + 1) Bd off cr ar b _ (by rw [HBl.out]; omega) Hbo.out bF ((HRow.out.alloc _).alloc _)) KeepsBs.trans (KeepsBs.b (by simp) (by simp; omega)) (Below.refl _ _) (fun _ => rfl)
    (fun pre W => Boxed W w1.heap.size 3 (.int .i64 (gval b pre : Nat)) ∧ Boxed W (w1.heap.size + 1) 22 (.slice ar b.length cr) ∧ Below w1.heap.size w1 W)
    (fun _ _ _ => False)
    (OwnFrom.and (Own.from (boxed_own w1.heap.size 3 (fun pre => .int .i64 (gval b pre : Nat))) _) (OwnFrom.and (Own.from (boxed_own (w1.heap.size + 1) 22 (fun _ => .slice ar b.length cr)) _) (ownFrom_below (Nat.le_refl _) (by simp; omega))))
    (fun _ _ _ _ _ hs _ _ => hs)
    ⟨bG.alloc _, bF, ((Below.refl _ w1).alloc (Nat.le_refl _) _).alloc (by simp) _⟩
    (fun x => { tmps := #[.agg #[.slice a1 S.length c1, .slice a2 O.length c2], .pointer (some ⟨w.heap.size, 0, none⟩), .pointer (some ⟨w.heap.size + 1, 0, none⟩), .int .i64 0, .slice ar b.length cr, .pointer (some ⟨w1.heap.size, 0, none⟩), undef, .int .i64 (Wm.pos b (x.1 + 1) : Nat), undef,
      .agg #[.slice a1 S.length c1, .slice a2 O.length c2], .slice ar b.length cr, .slice ar b.length cr, .func (.func 30) #[] #[.pointer (some ⟨w1.heap.size + 1, 0, none⟩)], .slice (some ⟨Bd, off + Wm.pos b x.1 + 4, none⟩) (Wm.long (b.drop (Wm.pos b x.1))) (cr - (Wm.pos b x.1 + 4)), .int .i64 (Wm.pos b (x.1 + 1) : Nat),
      undef, undef, undef, undef, undef, undef, undef, undef, undef, undef, undef, undef, undef, undef, undef, undef, undef, undef, undef, undef], defers := [] }) ?assign ?body ?done ?stop
  case assign =>
    intro L p W K hK
    unfold frEnc
    gi_wp2
    exact hK
  case body =>
    rintro L pre x W ⟨hg, hf, hB⟩ hpl
    have hc := hg.cell
    have hz := hg.frozen
    gi_wp2_with fail
    refine ⟨(KeepsOthers.setCell _ _ _).from _, ⟨by simp, Below.heap_setCell _ _ _ _ (by simp), Below.heap_setCell _ _ _ _ (by simp; omega)⟩, ?_, hf.other (by omega) _, hB.setCell (by simp) _⟩
    rw [gval_snoc]
    exact Boxed.set _ hg
  case done =>
    rintro D ys W hD hys ⟨hg, hf, hB⟩ hK
    rw [gval_all b ys hys] at hg
    have hgl := Wm.good_le b
    obtain ⟨G, hG⟩ : ∃ G, Wm.good b = G := ⟨_, rfl⟩
    rw [hG] at hg hgl
    have hgc := hg.cell
    have dS := HS.out.kept hB (by omega)
    have dX := HX.out.kept hB (by omega)
    have s0 := dS.cell0
    have n5 : ¬ w1.heap.size = w.heap.size + 1 := by omega
    have n6 : ¬ w.heap.size + 1 = w1.heap.size := by omega
    have x0 := dX.cell0
    have x1 := dX.cell1
    have x2 := dX.free 0
    have x3 := dX.free 1
    by_cases hm : G ≤ S.length
    · have em : min (G : Int) (S.length : Int) = G := by omega
      have hGc : (G : Int) ≤ cr := by obtain ⟨_, _, e, h, _⟩ := HRow.out; cases e; omega
      have hbm : b.length ≤ 80000 := by rw [HBl.out]; omega
      have ew : IntKind.i64.wrap ((b.length : Int) - G) = ((b.length - G : Nat) : Int) := by rw [IntWalk.i64_in _ (by omega)]; omega
      gi_wp2_with fail
      refine wpIn_wide.2 ?_
      go_region_held3 (fun w' => w'.cell? ⟨w1.heap.size, 0, none⟩ = some (.int .i64 G)) (go_keep) (first | fail)
      trace "R"
      go_wp2
      gi_wp2_with fail
      have hz : Duo ((W.setCell ⟨w.heap.size + 1, 0, none⟩ (.slice ar G G)).setCell ⟨w.heap.size + 1, 1, none⟩ (.slice ar 0 0)) (w.heap.size + 1) 24 (.slice ar G G) (.slice ar 0 0) := (dX.set0 _).set1 _
      have hDl : ((W.setCell ⟨w.heap.size + 1, 0, none⟩ (.slice ar G G)).setCell ⟨w.heap.size + 1, 1, none⟩ (.slice ar 0 0)).heap[D]? = some (.deferred (some [])) := (((KeepsOthers.setCell W _ _).trans (KeepsOthers.setCell _ _ _)).same D _ hK rfl)
      have hbl := ((HB1.out.trans (hB.mono HB1.out.size)).setCell (p := ⟨w.heap.size + 1, 0, none⟩) (by simp) (.slice ar G G)).setCell (p := ⟨w.heap.size + 1, 1, none⟩) (by simp) (.slice ar 0 0)
      have hrW := HRow.out.below hB
      have hrow2 : Row .u8 ((W.setCell ⟨w.heap.size + 1, 0, none⟩ (.slice ar G G)).setCell ⟨w.heap.size + 1, 1, none⟩ (.slice ar 0 0)) (.slice ar b.length cr) b := by
        refine (hrW.other (fun b' o' n' c' e => ?_) _).other (fun b' o' n' c' e => ?_) _
        all_goals
          injection e with e
          have h := HFar.out b' o' e
          simp at h ⊢
          omega
      obtain ⟨W2, hW2⟩ : ∃ W2, (W.setCell ⟨w.heap.size + 1, 0, none⟩ (.slice ar G G)).setCell ⟨w.heap.size + 1, 1, none⟩ (.slice ar 0 0) = W2 := ⟨_, rfl⟩
      rw [hW2] at hz hDl hbl hrow2 ⊢
      refine ⟨by simp, .inl ⟨_, _, rfl, run_takeDeferred (b := D) (by exact hDl), ?_⟩⟩
      have hDs : w.heap.size + 1 ≠ D := by simp at hD; omega
      refine ⟨_, results_cell_tmp rfl _ _ (w.heap.size + 1) _ _ _ _ rfl ((World.putObj_heap_other hDs).trans hz) rfl rfl rfl, .slice ar G G, .slice ar 0 0, by simp [hG], ?_, ?_, hbl.drew.trans (belowK_b (w := w) (Nat.le_refl _) W2.drew D _ _ (by simp at hD; omega) (by exact hDl) rfl rfl)⟩
      · exact row_putObj _ hDl (by rw [hG, Nat.min_eq_left hm]; exact hrow2.clip G hgl)
      · exact row_putObj _ hDl (by rw [hG, Nat.min_eq_left hm, List.drop_of_length_le (by simp; omega)]; exact Row.empty _ _ _ _ (by simp [maxLen]) (fun _ => rfl))
    · have em : min (G : Int) (S.length : Int) = S.length := by omega
      have hGc : (G : Int) ≤ cr := by obtain ⟨_, _, e, h, _⟩ := HRow.out; cases e; omega
      have hne : ¬ G = S.length := by omega
      have hSG : (S.length : Int) ≤ G := by omega
      have hSc : (S.length : Int) ≤ cr := by omega
      obtain rfl := Hbo.out (by omega)
      have hbm : b.length ≤ 80000 := by rw [HBl.out]; omega
      have ew : IntKind.i64.wrap ((b.length : Int) - G) = ((b.length - G : Nat) : Int) := by rw [IntWalk.i64_in _ (by omega)]; omega
      gi_wp2_with fail
      refine wpIn_wide.2 ?_
      go_region_held3 (fun w' => w'.cell? ⟨w1.heap.size, 0, none⟩ = some (.int .i64 G)) (go_keep) (first | fail)
      trace "R"
      go_wp2
      gi_wp2_with fail
      have hz : Duo ((W.setCell ⟨w.heap.size + 1, 0, none⟩ (.slice (some ⟨Bd, off, none⟩) S.length S.length)).setCell ⟨w.heap.size + 1, 1, none⟩ (.slice (some ⟨Bd, off + S.length, none⟩) (G - S.length) (G - S.length))) (w.heap.size + 1) 24 (.slice (some ⟨Bd, off, none⟩) S.length S.length) (.slice (some ⟨Bd, off + S.length, none⟩) (G - S.length) (G - S.length)) := (dX.set0 _).set1 _
      have hDl : ((W.setCell ⟨w.heap.size + 1, 0, none⟩ (.slice (some ⟨Bd, off, none⟩) S.length S.length)).setCell ⟨w.heap.size + 1, 1, none⟩ (.slice (some ⟨Bd, off + S.length, none⟩) (G - S.length) (G - S.length))).heap[D]? = some (.deferred (some [])) := (((KeepsOthers.setCell W _ _).trans (KeepsOthers.setCell _ _ _)).same D _ hK rfl)
      have hbl := ((HB1.out.trans (hB.mono HB1.out.size)).setCell (p := ⟨w.heap.size + 1, 0, none⟩) (by simp) (.slice (some ⟨Bd, off, none⟩) S.length S.length)).setCell (p := ⟨w.heap.size + 1, 1, none⟩) (by simp) (.slice (some ⟨Bd, off + S.length, none⟩) (G - S.length) (G - S.length))
      have hrW := HRow.out.below hB
      have hrow2 : Row .u8 ((W.setCell ⟨w.heap.size + 1, 0, none⟩ (.slice (some ⟨Bd, off, none⟩) S.length S.length)).setCell ⟨w.heap.size + 1, 1, none⟩ (.slice (some ⟨Bd, off + S.length, none⟩) (G - S.length) (G - S.length))) (.slice (some ⟨Bd, off, none⟩) b.length cr) b := by
        refine (hrW.other (fun b' o' n' c' e => ?_) _).other (fun b' o' n' c' e => ?_) _
        all_goals
          injection e with e
          have h := HFar.out b' o' e
          simp at h ⊢
          omega
      obtain ⟨W2, hW2⟩ : ∃ W2, (W.setCell ⟨w.heap.size + 1, 0, none⟩ (.slice (some ⟨Bd, off, none⟩) S.length S.length)).setCell ⟨w.heap.size + 1, 1, none⟩ (.slice (some ⟨Bd, off + S.length, none⟩) (G - S.length) (G - S.length)) = W2 := ⟨_, rfl⟩
      rw [hW2] at hz hDl hbl hrow2 ⊢
      refine ⟨by simp, .inl ⟨_, _, rfl, run_takeDeferred (b := D) (by exact hDl), ?_⟩⟩
      have hDs : w.heap.size + 1 ≠ D := by simp at hD; omega
      refine ⟨_, results_cell_tmp rfl _ _ (w.heap.size + 1) _ _ _ _ rfl ((World.putObj_heap_other hDs).trans hz) rfl rfl rfl, .slice (some ⟨Bd, off, none⟩) S.length S.length, .slice (some ⟨Bd, off + S.length, none⟩) (G - S.length) (G - S.length), by simp [hG], ?_, ?_, hbl.drew.trans (belowK_b (w := w) (Nat.le_refl _) W2.drew D _ _ (by simp at hD; omega) (by exact hDl) rfl rfl)⟩
      · exact row_putObj _ hDl (by rw [hG, Nat.min_eq_right (by omega)]; exact hrow2.clip S.length (by omega))
      · exact row_putObj _ hDl (by rw [hG, Nat.min_eq_right (by omega)]; exact (hrow2.clip G hgl).drop S.length (by simp; omega))
  case stop =>
    rintro D c pre W _ _ h _
    exact h.elim
end Go.Proofs.Ytiijlakilogekaa
