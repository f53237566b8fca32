/-
  The walk over sieve.Has.
-/
import Derived.Test.YtconpdliadhahaaSr
namespace Go.Proofs.Ytconpdliadhahaa
open Go.RowKit Go.Shelf
attribute [local go_sem] Oper.semAt_some

instance (s : Sm.Sv) : Decidable (Sm.ok s) := by unfold Sm.ok; infer_instance
/-- Whether a sieve tells a number. -/
def Sm.has (s : Sm.Sv) (n : Int) : Bool := decide (Sm.ok s ∧ Sm.right n) && (Sm.places s.bits s.hashes s.salt n).all (Sm.bit s.b)
theorem Sm.has_no (s : Sm.Sv) (n : Int) (h : ¬ (Sm.ok s ∧ Sm.right n)) : Sm.has s n = false := by unfold Sm.has; rw [decide_eq_false h]; rfl
theorem Sm.has_yes (s : Sm.Sv) (n : Int) (h : Sm.ok s ∧ Sm.right n) : Sm.has s n = (Sm.places s.bits s.hashes s.salt n).all (Sm.bit s.b) := by unfold Sm.has; rw [decide_eq_true h]; rfl
theorem and8 (d : Int) (k : Nat) (hd : byte d) (hk : k < 8) : bits .and .u8 d (2 ^ k) = if d.toNat.testBit k then 2 ^ k else 0 := by
  obtain ⟨h0, h1⟩ := hd
  obtain ⟨n, rfl⟩ := Int.eq_ofNat_of_zero_le h0
  have key : ∀ n : Nat, n < 256 → ∀ k, k < 8 → bits .and .u8 (n : Int) (2 ^ k) = if n.testBit k then 2 ^ k else 0 := by decide +kernel
  rw [Int.toNat_natCast]
  exact key n (by omega) k hk

/-- One of the places is not set; all are. -/
def Missed (b : List Int) {m : Int} (pre : List (Pc m)) : Prop := ∃ x ∈ pre, Sm.bit b x.1 = false
def AllSet (b : List Int) {m : Int} (pre : List (Pc m)) : Prop := ∀ x ∈ pre, Sm.bit b x.1 = true
theorem results_one_bool {fn : Func} {p : Tmp} (h : fn.results = #[.cell p 4]) (tmps : Array Value) (w : World) (B : Nat) (v : Value) (hp : tmps.getD p undef = .pointer (some ⟨B, 0, none⟩)) (hc : w.cell? ⟨B, 0, none⟩ = some v) :
    (results fn tmps).run Try.prog w = .ok v w := by
  have hp' : tmps[p]?.getD undef = .pointer (some ⟨B, 0, none⟩) := by simpa using hp
  simp [results, h, hp', asAddr, go_sem, hc]

set_option maxRecDepth 100000 in
set_option maxHeartbeats 1000000 in
theorem Has_no (s : Sm.Sv) (vb : Value) (n : Int) (w : World) (h : Row .u8 w vb s.b) (hno : ¬ (Sm.ok s ∧ Sm.right n)) :
    Calls Try.prog 41 #[.agg #[.int .i64 s.bits, .int .i64 s.hashes, .int .i64 s.salt, vb], .int .i64 n] w fun e w' => e = .returned (.bool false) ∧ Below w.heap.size w w' := by
  have HNo := Lib.hid hno
  clear hno
  obtain ⟨B, hB⟩ : ∃ B, w.heap.size = B := ⟨_, rfl⟩
  obtain ⟨a, c, rfl⟩ := h.shape s.b.length rfl
  have qB := (Quad.new w 57 (.int .i64 s.bits) (.int .i64 s.hashes) (.int .i64 s.salt) (.slice a s.b.length c)).alloc (.cells #[.bool false] 4)
  have bR := Boxed.new (w.alloc (.cells #[.int .i64 s.bits, .int .i64 s.hashes, .int .i64 s.salt, .slice a s.b.length c] 57)) 4 (.bool false)
  have hbw := ((Below.refl w.heap.size w).alloc (Nat.le_refl _) (.cells #[.int .i64 s.bits, .int .i64 s.hashes, .int .i64 s.salt, .slice a s.b.length c] 57)).alloc (by simp) (.cells #[.bool false] 4)
  have r1 := (h.alloc (.cells #[.int .i64 s.bits, .int .i64 s.hashes, .int .i64 s.salt, .slice a s.b.length c] 57)).alloc (.cells #[.bool false] 4)
  rw [World.size_alloc] at bR
  rw [hB] at qB bR
  have c0 := qB.cell0; have c1 := qB.cell1; have c2 := qB.cell2; have c3 := qB.cell3
  go_enter Try.func41, Try.ntmps41
  go_wp2_with fail
  (try rw [hB])
  refine (Check_any s _ _ r1).mono ?_; rintro e w1 ⟨⟨cc, rfl, hcc⟩, hb1⟩
  have hB1 := hbw.trans (hb1.mono (by simp; omega))
  have b1 : Boxed w1 (B + 1) 4 (.bool false) := (hb1.block (B + 1) bR.lt).trans bR
  have g0 := b1.cell
  have f0 := b1.frozen
  clear qB bR c0 c1 c2 c3
  rcases hcc with ⟨hok, rfl⟩ | ⟨hok, rfl⟩
  · have hnr : ¬ Sm.right n := fun h => HNo.out ⟨hok, h⟩
    have hd := decide_eq_false hnr
    clear hok hnr
    go_wp2_with fail
    refine (right_any n _).mono ?_; rintro e w' ⟨rfl, rfl⟩
    rw [hd]
    go_wp2_with fail
    have b2 := b1.set (.bool false)
    have g2 := b2.cell
    refine bodyPost_ret (v := .bool false) ?_ rfl ⟨rfl, hB1.setCell (by rw [hB]; simp) _⟩
    exact results_one_bool rfl _ _ (B + 1) _ rfl g2
  · clear hok
    go_wp2_with fail
    have b2 := b1.set (.bool false)
    have g2 := b2.cell
    refine bodyPost_ret (v := .bool false) ?_ rfl ⟨rfl, hB1.setCell (by rw [hB]; simp) _⟩
    exact results_one_bool rfl _ _ (B + 1) _ rfl g2

set_option maxRecDepth 100000 in
set_option maxHeartbeats 2000000 in
theorem Has_yes (s : Sm.Sv) (vb : Value) (n : Int) (w : World) (h : Row .u8 w vb s.b) (hyes : Sm.ok s ∧ Sm.right n) :
    Calls Try.prog 41 #[.agg #[.int .i64 s.bits, .int .i64 s.hashes, .int .i64 s.salt, vb], .int .i64 n] w fun e w' => e = .returned (.bool ((Sm.places s.bits s.hashes s.salt n).all (Sm.bit s.b))) ∧ Below w.heap.size w w' := by
  obtain ⟨hok, hn⟩ := hyes
  have hd := decide_eq_true hn
  have HOk := Lib.hid hok; have HN := Lib.hid hn
  obtain ⟨k1, k2, k3, k4, k5, k6, k7⟩ := hok
  have hby := h.all_byte
  obtain ⟨len, hlen⟩ : ∃ len, s.b.length = len := ⟨_, rfl⟩
  have hlenb : (len : Int) = s.bits / 8 := by rw [← hlen]; exact k7
  obtain ⟨a, cap, hv⟩ := h.shape len hlen
  have hne : s.b ≠ [] := by intro e; rw [e] at hlen; simp at hlen; omega
  have hcap : len ≤ cap ∧ cap ≤ 9223372036854775807 := by
    obtain ⟨_, _, e, h1, h2, _⟩ := h
    rw [hv] at e; cases e; unfold maxLen at h2; rw [hlen] at h1; exact ⟨h1, by omega⟩
  obtain ⟨gb, ob, ha⟩ : ∃ gb ob, a = some ⟨gb, ob, none⟩ := by
    obtain ⟨_, _, e, _, _, _, _, h5⟩ := h
    rw [hv] at e; cases e
    obtain ⟨b, o, e, _⟩ := h5 hne
    exact ⟨b, o, e⟩
  subst ha
  have HV := Lib.hid hv; have HL := Lib.hid hlen; have HBy := Lib.hid hby
  clear hv hlen hby hn k7
  obtain ⟨B, hB⟩ : ∃ B, w.heap.size = B := ⟨_, rfl⟩
  have qB := (Quad.new w 57 (.int .i64 s.bits) (.int .i64 s.hashes) (.int .i64 s.salt) vb).alloc (.cells #[.bool false] 4)
  have bR := Boxed.new (w.alloc (.cells #[.int .i64 s.bits, .int .i64 s.hashes, .int .i64 s.salt, vb] 57)) 4 (.bool false)
  have hbw := ((Below.refl w.heap.size w).alloc (Nat.le_refl _) (.cells #[.int .i64 s.bits, .int .i64 s.hashes, .int .i64 s.salt, vb] 57)).alloc (by simp) (.cells #[.bool false] 4)
  have r1 := (h.alloc (.cells #[.int .i64 s.bits, .int .i64 s.hashes, .int .i64 s.salt, vb] 57)).alloc (.cells #[.bool false] 4)
  rw [World.size_alloc] at bR
  rw [hB] at qB bR
  have c0 := qB.cell0; have c1 := qB.cell1; have c2 := qB.cell2; have c3 := qB.cell3
  refine (callsIn_wide (n := 6)).1 ?_
  refine callsIn_of_wp_marks Try.func41 rfl trivial ?_ rfl
  simp only [Try.ntmps41, List.size_toArray, List.length_cons, List.length_nil, Nat.reduceAdd, Nat.reduceSub, Array.replicate_succ, Array.replicate_zero, List.push_toArray, List.append_toArray, List.nil_append, List.cons_append]
  gi_wp2_with (first
    | (refine ⟨trivial, ?_⟩; gi_at_call 44; refine (callsIn_wide.2 (Check_any s vb _ (by exact r1))).mono ?_; rintro e w1 ⟨⟨cc, rfl, hcc⟩, hb1⟩; obtain rfl : cc = 0 := (hcc.elim (fun h => h.2) (fun h => absurd HOk.out h.1)); have q1 := qB.stp hb1; have d0 := q1.cell0; have d1 := q1.cell1; have d2 := q1.cell2; have d3 := q1.cell3)
    | (refine ⟨trivial, ?_⟩; gi_at_call 56; refine (callsIn_wide.2 (right_any n _)).mono ?_; rintro e w' ⟨rfl, rfl⟩; rw [hd])
    | (refine ⟨trivial, ?_⟩; gi_at_call 57; refine (callsIn_wide.2 (places_any s vb n _ k6 HN.out)).mono ?_; rintro e w2 ⟨B', P, Q, gs, gn, rfl, hI, hnew, hb2⟩)
    | fail)
  have q2 := q1.stp hb2
  have b2 : Boxed w2 (B + 1) 4 (.bool false) := (hb2.block (B + 1) (by have := hb1.size; have := bR.lt; omega)).trans ((hb1.block (B + 1) bR.lt).trans bR)
  have r2 := (r1.below hb1).below hb2
  have hw2 : Below w.heap.size w w2 := (hbw.trans (hb1.mono (by simp; omega))).trans (hb2.mono (by have := hb1.size; simp at this; omega))
  rw [HV.out] at q2 r2
  rw [HV.out]
  clear r1 q1 d0 d1 d2 d3 c0 c1 c2 c3 qB bR hcc h
  have hlow := hw2.size
  rw [hB] at hw2 hlow
  obtain ⟨PL, hPL⟩ : ∃ PL, Sm.places s.bits s.hashes s.salt n = PL := ⟨_, rfl⟩
  have HPL := Lib.hid hPL
  have HSt := Lib.hid (places_stops 5 (by omega) B' P Q gs gn s vb n k1 k2 k4 k5 _ hI)
  rw [hPL] at HSt
  clear hPL
  refine wpIn_rangeFunc_ownG rfl (by omega) (gf := 67) (lb := #[.pointer (some ⟨B', 0, none⟩), .pointer (some ⟨P, 0, none⟩), .pointer (some ⟨Q, 0, none⟩)]) rfl trivial (enters_of Try.func67 (by kernel_rfl) rfl)
    HSt.out KeepsL.trans (KeepsL.b (fun k hk => (hnew k hk).2)) (Below.refl _ _) (fun _ => rfl)
    (fun pre W => AllSet s.b pre ∧ Below w2.heap.size w2 W)
    (fun c pre W => (c = .ret ∧ Missed s.b pre) ∧ Boxed W (B + 1) 4 (.bool false) ∧ Below B w W)
    (OwnFrom.and (fun _ _ _ _ hs _ _ => hs) (ownFrom_below (Nat.le_refl _) (Nat.le_refl _)))
    (fun c => OwnFrom.and (fun _ _ _ _ hs _ _ => hs) (OwnFrom.and (Own.from (boxed_own (B + 1) 4 (fun _ => .bool false)) _) (ownFrom_below (by omega) hlow)))
    ⟨fun x hx => absurd hx (by simp), Below.refl _ _⟩
    (fun x => { tmps := #[.agg #[.int .i64 s.bits, .int .i64 s.hashes, .int .i64 s.salt, .slice (some ⟨gb, ob, none⟩) len cap], .int .i64 n, .pointer (some ⟨B, 0, none⟩), undef, .pointer (some ⟨B + 1, 0, none⟩), .int .i64 (x.1 / 8 : Nat), .int .u8 (2 ^ (x.1 % 8) : Nat), .agg #[.int .i64 s.bits, .int .i64 s.hashes, .int .i64 s.salt, .slice (some ⟨gb, ob, none⟩) len cap], .int .i64 0, .bool false, .bool false, .int .i64 n, .bool true, .bool false, .bool false, .agg #[.int .i64 s.bits, .int .i64 s.hashes, .int .i64 s.salt, .slice (some ⟨gb, ob, none⟩) len cap], .int .i64 n,
      .func (.func 67) #[] #[.pointer (some ⟨B', 0, none⟩), .pointer (some ⟨P, 0, none⟩), .pointer (some ⟨Q, 0, none⟩)], .int .i64 (x.1 / 8 : Nat), .int .u8 (2 ^ (x.1 % 8) : Nat), undef, undef, undef, undef, undef, undef, undef, undef], defers := [] }) ?assign ?body ?done ?stop
  case assign =>
    intro L x W K hK
    unfold pcEnc
    gi_wp2
    exact hK
  case body =>
    rintro L pre x W ⟨hall, hB'⟩ _
    obtain ⟨q, hqb⟩ := x
    dsimp only
    have hql : q / 8 < len := by omega
    have rW := r2.below hB'
    have qW := q2.stp hB'
    have bW : Boxed W (B + 1) 4 (.bool false) := (hB'.block (B + 1) b2.lt).trans b2
    obtain ⟨hbl, hcell⟩ : gb < W.heap.size ∧ ∀ i, i < s.b.length → W.cell? ⟨gb, ob + i, none⟩ = some (.int .u8 (s.b[i]?.getD 0)) := by
      obtain ⟨_, _, e, _, _, _, _, h5⟩ := rW
      cases e
      obtain ⟨b, o, e, hlt, hc⟩ := h5 hne
      cases e
      exact ⟨hlt, hc⟩
    have hc1 := hcell (q / 8) (by rw [HL.out]; omega)
    have c3 := qW.cell3
    have hdb := Sm.byte_at s.b HBy.out (q / 8)
    have hbit : Sm.bit s.b q = (s.b[q / 8]?.getD 0).toNat.testBit (q % 8) := rfl
    obtain ⟨d, hd'⟩ : ∃ d, s.b[q / 8]?.getD 0 = d := ⟨_, rfl⟩
    rw [hd'] at hc1 hdb hbit
    have eand := and8 d (q % 8) hdb (Nat.mod_lt _ (by decide))
    rw [← hbit] at eand
    have hm0 : ¬ ((2 : Int) ^ (q % 8) = 0) := by
      have := Sm.two_nat (q % 8)
      intro e; rw [e] at this
      have h2 : 0 < 2 ^ (q % 8) := Nat.pos_of_ne_zero (by simp)
      simp at this; omega
    obtain ⟨m, hm⟩ : ∃ m : Int, (2 : Int) ^ (q % 8) = m := ⟨_, rfl⟩
    have hm' : ((2 ^ (q % 8) : Nat) : Int) = m := by rw [← hm]; simp
    obtain ⟨c, hc⟩ : ∃ c, q / 8 = c := ⟨_, rfl⟩
    rw [hm] at eand hm0
    rw [hc] at hql hc1
    rw [hm', hc]
    have kc1 : (c : Int) < (len : Int) := by omega
    have hB2 := hB'
    clear hcell hd' hm hm' hc hbit rW
    by_cases hb : Sm.bit s.b q = true
    · rw [if_pos hb] at eand
      gi_wp2_with fail
      refine ⟨(KeepsOthers.refl _).from _, KeepsL.refl _ _, ?_, hB2⟩
      show AllSet s.b (pre ++ [⟨q, hqb⟩])
      intro x hx
      rcases List.mem_append.1 hx with hx | hx
      · exact hall x hx
      · rw [List.mem_singleton.1 hx]; exact hb
    · rw [if_neg hb] at eand
      have g0 := bW.cell
      have f0 := bW.frozen
      gi_wp2_with fail
      refine ⟨(KeepsOthers.setCell _ _ _).from _, ⟨rfl, ⟨⟨q, hqb⟩, List.mem_append_right _ (List.mem_singleton.2 rfl), by simpa using hb⟩⟩, bW.set _, (hw2.trans (hB2.mono hlow)).setCell (by simp) _⟩
  case done =>
    rintro D ys W hD hys ⟨hall, hB'⟩ hK
    have hres : PL.all (Sm.bit s.b) = true := by
      rw [← hys, List.all_eq_true]
      intro x hx
      obtain ⟨y, hy, rfl⟩ := List.mem_map.1 hx
      exact hall y hy
    have bW : Boxed W (B + 1) 4 (.bool false) := (hB'.block (B + 1) b2.lt).trans b2
    have g0 := bW.cell
    have f0 := bW.frozen
    have HRes := Lib.hid hres
    clear hres
    gi_wp2
    have hK' : (W.setCell ⟨B + 1, 0, none⟩ (.bool true)).heap[D]? = some (.deferred (some [])) := (KeepsOthers.setCell W _ _).same D _ hK rfl
    refine ⟨by simp, .inl ⟨_, _, rfl, run_takeDeferred hK', ?_⟩⟩
    have b4 := bW.set (.bool true)
    have g4 := cell_kept b4.cell (grownBy_putObj' _ D (.deferred none)) (fun r e => by cases e; exact ⟨_, hK', rfl⟩)
    refine ⟨_, results_one_bool rfl _ _ (B + 1) _ rfl g4, by rw [HPL.out, HRes.out], ?_⟩
    have hq : Below B w (W.setCell ⟨B + 1, 0, none⟩ (.bool true)) := (hw2.trans (hB'.mono hlow)).setCell (by simp) _
    exact hq.trans (belowK_b (w := w) (by omega) _ D _ _ (by omega) hK' rfl rfl)
  case stop =>
    rintro D c pre W hD hpre ⟨⟨rfl, x, hx, hxb⟩, bW, hB'⟩ hK
    have hres : PL.all (Sm.bit s.b) = false := by
      rw [← Bool.not_eq_true, List.all_eq_true]
      intro hf
      have := hf x.1 (hpre.subset (List.mem_map.2 ⟨x, hx, rfl⟩))
      rw [hxb] at this; cases this
    have HRes := Lib.hid hres
    clear hres
    gi_wp2
    refine ⟨by simp, .inl ⟨_, _, rfl, run_takeDeferred hK, ?_⟩⟩
    have g4 := cell_kept bW.cell (grownBy_putObj' _ D (.deferred none)) (fun r e => by cases e; exact ⟨_, hK, rfl⟩)
    refine ⟨_, results_one_bool rfl _ _ (B + 1) _ rfl g4, by rw [HPL.out, HRes.out], ?_⟩
    exact hB'.trans (belowK_b (w := w) (by omega) _ D _ _ (by omega) hK rfl rfl)

theorem Has_any (s : Sm.Sv) (vb : Value) (n : Int) (w : World) (h : Row .u8 w vb s.b) :
    Calls Try.prog 41 #[.agg #[.int .i64 s.bits, .int .i64 s.hashes, .int .i64 s.salt, vb], .int .i64 n] w fun e w' => e = .returned (.bool (Sm.has s n)) ∧ Below w.heap.size w w' := by
  by_cases hy : Sm.ok s ∧ Sm.right n
  · rw [Sm.has_yes s n hy]; exact Has_yes s vb n w h hy
  · rw [Sm.has_no s n hy]; exact Has_no s vb n w h hy
end Go.Proofs.Ytconpdliadhahaa
