/-
  slices.Backward over numbers of 64 bits, and the walk over field.Eval, which ranges over it.
-/
import Derived.RangeFuncBox
import Derived.RangeFuncNested
import Derived.RangeFuncLeaves
import Derived.Shelf.Abstract
import Derived.WalkKit
import Derived.OwnWalkIn
import Derived.TacticsInMore
import Derived.LoopNIn
import Derived.LoopIn
import Derived.Test.YtnichjocllfocaaFv
namespace Go.Proofs.Ytnichjocllfocaa
open Go.RowKit Go.Shelf

attribute [local go_sem] Oper.semAt_some

/-- A number of 64 bits. -/
def W64 : Type := { x : Int // U64 x }

/-- What a round of a loop keeps: whatever lies below n, and one box. -/
def KeepsBox (n B : Nat) (w w' : World) : Prop := Below n w w' ∧ w'.cell? ⟨B, 0, none⟩ = w.cell? ⟨B, 0, none⟩
theorem KeepsBox.trans {n B : Nat} {a b c : World} (h : KeepsBox n B a b) (k : KeepsBox n B b c) : KeepsBox n B a c := ⟨h.1.trans k.1, k.2.trans h.2⟩
theorem KeepsBox.refl (n B : Nat) (w : World) : KeepsBox n B w w := ⟨Below.refl _ _, rfl⟩
theorem KeepsBox.b {n₀ B : Nat} {w : World} (hn : n₀ ≤ w.heap.size) (hB : B < w.heap.size) (W : World) (l : Nat) (o o' : Obj) (hl : w.heap.size ≤ l) (h : W.heap[l]? = some o) (h1 : o.isCells = false) (h2 : o.isWalk = false) : KeepsBox n₀ B W (W.putObj l o') :=
  ⟨belowK_b hn W l o o' hl h h1 h2, (belowK_b (Nat.le_refl _) W l o o' hl h h1 h2).cell (p := ⟨B, 0, none⟩) hB⟩

theorem KeepsBox.drewN {n B : Nat} {a b : World} (h : KeepsBox n B a b) (k : Nat) : KeepsBox n B a (b.drewN k) := ⟨below_drewN h.1 k, h.2⟩

def bwd (len : Nat) (z : Nat → W64) (j : Nat) : Nat × W64 := (len - 1 - j, z (len - 1 - j))

set_option maxRecDepth 100000 in
set_option maxHeartbeats 2000000 in
theorem back1_in (F : Fence) (n : Nat) (hf : F.fn 35) (hro : F.round = none) (hn : 1 ≤ n) (l Bs n₀ b off len cap : Nat) (z : Nat → W64) (hreach : len ≤ 9223372036854775807) (hb : b < n₀) (J Jx : List (Nat × W64) → World → Prop)
    (hY : ∀ pre x W, J pre W → pre.length < len → YieldAt F (n - 1) Try.prog l #[.int .i64 (x.1 : Int), .int .u64 x.2.1] W fun e W' =>
      (e = .returned (.bool true) ∧ J (pre ++ [x]) W' ∧ KeepsBox n₀ Bs W W') ∨ (e = .returned (.bool false) ∧ Jx (pre ++ [x]) W'))
    (W : World) (hBs : W.cell? ⟨Bs, 0, none⟩ = some (.slice (some ⟨b, off, none⟩) len cap)) (hc : ∀ j, j < len → W.cell? ⟨b, off + j, none⟩ = some (.int .u64 (z j).1)) (h0 : J [] W) :
    CallsIn F n Try.prog 35 #[.func (.yield l) #[] #[], .pointer (some ⟨Bs, 0, none⟩)] W fun e W' => (∃ v, e = .returned v) ∧
      ((∃ ys, ys = upto (bwd len z) len ∧ J ys W') ∨ (∃ pre, (∃ k, k ≤ len ∧ pre = upto (bwd len z) k) ∧ Jx pre W')) := by
  refine callsIn_of_wp Try.func35 rfl hf ?_ hro
  simp only [Try.ntmps35, List.size_toArray, List.length_cons, List.length_nil, Nat.reduceAdd, Nat.reduceSub, Array.replicate_succ, Array.replicate_zero, List.push_toArray, List.append_toArray, List.nil_append, List.cons_append]
  gi_wp2
  gi_loopw [3] (fun i wr => ∃ k : Nat, k ≤ len ∧ i = .int .i64 ((len : Int) - 1 - k) ∧ J (upto (bwd len z) k) wr ∧ KeepsBox n₀ Bs W wr)
    (fun i _ => (intOf i + 1).toNat)
  case atStart => exact ⟨0, Nat.zero_le _, by go_num, h0, KeepsBox.refl _ _ _⟩
  case round =>
    obtain ⟨k, hk, rfl, hJs, hnx⟩ := hrel
    by_cases hlt : k < len
    · have hcx := (hnx.1.cell (p := ⟨b, off + (len - 1 - k), none⟩) hb).trans (hc (len - 1 - k) (by omega))
      have hbx := hnx.2.trans hBs
      obtain ⟨fn, tmps, assign, body, hy, hR⟩ := hY _ (bwd len z k) wr hJs (by rw [upto_length]; exact hlt)
      dsimp only [bwd] at hy
      rw [show ((len - 1 - k : Nat) : Int) = (len : Int) - 1 - k by omega] at hy
      gi_wp2
      refine hR.mono ?_
      rintro e W3 (⟨rfl, hJ3, hk3⟩ | ⟨rfl, hJx3⟩)
      · gi_wp2
        go_roundw
        case rel => exact ⟨k + 1, by omega, by go_num, by rw [upto_succ]; exact hJ3, hnx.trans hk3⟩
        case measure => simp [intOf]; omega
      · gi_wp2
        refine bodyPost_ret (results_none rfl _ _ _) rfl ?_
        exact ⟨⟨_, rfl⟩, .inr ⟨_, ⟨k + 1, by omega, (upto_succ _ _).symm⟩, hJx3⟩⟩
    · obtain rfl : k = len := by omega
      gi_wp2
      go_end0
      exact ⟨⟨_, rfl⟩, .inl ⟨_, rfl, hJs⟩⟩

set_option maxRecDepth 100000 in
set_option maxHeartbeats 1000000 in
theorem back1_nil_in (F : Fence) (n : Nat) (hf : F.fn 35) (hro : F.round = none) (l Bs cap : Nat) (a : Option Addr) (J : List (Nat × W64) → World → Prop) (W : World) (hBs : W.cell? ⟨Bs, 0, none⟩ = some (.slice a 0 cap)) (h0 : J [] W) :
    CallsIn F n Try.prog 35 #[.func (.yield l) #[] #[], .pointer (some ⟨Bs, 0, none⟩)] W fun e W' => (∃ v, e = .returned v) ∧ J [] W' := by
  refine callsIn_of_wp Try.func35 rfl hf ?_ hro
  simp only [Try.ntmps35, List.size_toArray, List.length_cons, List.length_nil, Nat.reduceAdd, Nat.reduceSub, Array.replicate_succ, Array.replicate_zero, List.push_toArray, List.append_toArray, List.nil_append, List.cons_append]
  gi_wp2
  gi_loopw [3] (fun i wr => i = .int .i64 (-1) ∧ J [] wr) (fun _ _ => 0)
  case atStart => exact ⟨by go_num, h0⟩
  case round =>
    obtain ⟨rfl, hJs⟩ := hrel
    gi_wp2
    go_end0
    exact ⟨⟨_, rfl⟩, hJs⟩

set_option maxHeartbeats 1000000 in
theorem back_in (F : Fence) (n : Nat) (hf : F.fn 33) (hro : F.round = none) (a : Option Addr) (len cap : Nat) (w : World) :
    CallsIn F n Try.prog 33 #[.slice a len cap] w fun e w' => e = .returned (.func (.func 35) #[] #[.pointer (some ⟨w.heap.size, 0, none⟩)]) ∧ w' = w.alloc (.cells #[.slice a len cap] 30) := by
  refine callsIn_of_wp Try.func33 rfl hf ?_ hro
  simp only [Try.ntmps33, List.size_toArray, List.length_cons, List.length_nil, Nat.reduceAdd, Nat.reduceSub, Array.replicate_succ, Array.replicate_zero, List.push_toArray, List.append_toArray, List.nil_append, List.cons_append]
  gi_wp2
  go_ret
  exact ⟨rfl, rfl⟩

theorem row_U64 {w : World} {v : Value} {l : List Int} (h : Row .u64 w v l) (j : Nat) : U64 (l[j]?.getD 0) := by
  obtain ⟨_, _, _, _, _, _, hw, _⟩ := h
  by_cases hj : j < l.length
  · rw [List.getElem?_eq_getElem hj]; exact U64.of_wf (hw _ (List.getElem_mem hj))
  · rw [List.getElem?_eq_none (by omega)]; exact ⟨by simp, by simp⟩

theorem back_stops (F : Fence) (n : Nat) (hf : F.fn 35) (hro : F.round = none) (hn : 1 ≤ n) (Bs n₀ : Nat) (sv : Value) (l : List Int) (z : Nat → W64) (hz : ∀ j, (z j).1 = l[j]?.getD 0) (w0 w : World) (h0 : w0.heap.size ≤ n₀) (hb0 : Below w0.heap.size w0 w) (hBs : Bs < w.heap.size)
    (hc : w.cell? ⟨Bs, 0, none⟩ = some sv) (hI : Row .u64 w0 sv l) :
    SeqStopsK F n Try.prog 35 #[.pointer (some ⟨Bs, 0, none⟩)] (fun x : Nat × W64 => #[Value.int .i64 (x.1 : Int), Value.int .u64 x.2.1]) (KeepsBox n₀ Bs) (fun ys => ys = upto (bwd l.length z) l.length)
      (fun pre => ∃ k, k ≤ l.length ∧ pre = upto (bwd l.length z) k) l.length w := fun L J Jx W hW _ _ hY hJ0 => by
  have hc' := (hW.cell (p := ⟨Bs, 0, none⟩) hBs).trans hc
  have hbw : Below w0.heap.size w0 W := hb0.trans (hW.mono hb0.size)
  obtain ⟨a, cap, rfl, hl, hm, -, hwf, hr⟩ := hI
  unfold maxLen at hm
  by_cases hne : l = []
  · subst hne
    exact (back1_nil_in F n hf hro L Bs cap a J W hc' hJ0).mono fun e W' ⟨he, hj⟩ => ⟨he, .inl ⟨_, rfl, hj⟩⟩
  · obtain ⟨b, off, rfl, hb, hcs⟩ := hr hne
    exact back1_in F n hf hro hn L Bs n₀ b off l.length cap z (by omega) (by omega) J Jx hY W hc' (fun j hj => by rw [hz]; exact (hbw.cell (p := ⟨b, off + j, none⟩) hb).trans (hcs j hj)) hJ0

/-- What a polynomial comes to, from its last part on. -/
def horner (x : Int) (l : List (Nat × W64)) : Int := l.foldl (fun o p => Fm.add (Fm.mul o x) p.2.1) 0
theorem horner_snoc (x : Int) (l : List (Nat × W64)) (p : Nat × W64) : horner x (l ++ [p]) = Fm.add (Fm.mul (horner x l) x) p.2.1 := by simp [horner]
theorem horner_rng (x : Int) (l : List (Nat × W64)) : 0 ≤ horner x l ∧ horner x l < Fm.P := by
  unfold horner
  have key : ∀ (l : List (Nat × W64)) (o : Int), 0 ≤ o ∧ o < Fm.P → 0 ≤ l.foldl (fun o p => Fm.add (Fm.mul o x) p.2.1) o ∧ l.foldl (fun o p => Fm.add (Fm.mul o x) p.2.1) o < Fm.P := by
    intro l
    induction l with
    | nil => intro o h; exact h
    | cons p t ih => intro o _; exact ih _ (Fm.add_rng _ _)
  exact key l 0 ⟨by omega, Fm.P_pos⟩
theorem horner_all (x : Int) (l : List Int) (z : Nat → W64) (hz : ∀ j, (z j).1 = l[j]?.getD 0) : horner x (upto (bwd l.length z) l.length) = Fm.eval l x := by
  have key : ∀ k, k ≤ l.length → horner x (upto (bwd l.length z) k) = Fm.eval (l.drop (l.length - k)) x := by
    intro k
    induction k with
    | zero => intro _; simp [upto, horner, Fm.eval_nil]
    | succ k ih =>
      intro hk
      rw [upto_succ, horner_snoc, ih (by omega), List.drop_eq_getElem_cons (by omega : l.length - (k + 1) < l.length), Fm.eval_cons]
      have e1 : l.length - (k + 1) + 1 = l.length - k := by omega
      have e2 : (bwd l.length z k).2.1 = l[l.length - (k + 1)] := by
        simp only [bwd]
        rw [show l.length - 1 - k = l.length - (k + 1) by omega, hz, List.getElem?_eq_getElem (by omega)]; rfl
      rw [e1, e2]
  rw [key _ (Nat.le_refl _)]; simp

set_option maxRecDepth 100000 in
set_option maxHeartbeats 2000000 in
theorem Eval_any (v : Value) (l : List Int) (x : Int) (w : World) (h : Row .u64 w v l) (hx : U64 x) :
    Calls Try.prog 26 #[v, .int .u64 x] w fun e w' => e = .returned (.int .u64 (Fm.eval l x)) ∧ Below w.heap.size w w' := by
  have hrow := h
  obtain ⟨a1, c1, rfl, hl1, hc1, -, hw1, hr1⟩ := h
  clear hl1 hc1 hw1 hr1
  refine (callsIn_wide (n := 4)).1 ?_
  refine callsIn_of_wp_marks Try.func26 rfl trivial ?_ rfl
  simp only [Try.ntmps26, List.size_toArray, List.length_cons, List.length_nil, Nat.reduceAdd, Nat.reduceSub, Array.replicate_succ, Array.replicate_zero, List.push_toArray, List.append_toArray, List.nil_append, List.cons_append]
  gi_wp2_with (refine ⟨trivial, ?_⟩; gi_at_call 33; refine (back_in Fence.wide _ trivial rfl _ _ _ _).mono ?_; rintro e w' ⟨rfl, rfl⟩)
  have bX := Boxed.new w 22 (.int .u64 x)
  have bO := Boxed.new (w.alloc (.cells #[.int .u64 x] 22)) 22 (.int .u64 0)
  have bS := Boxed.new ((w.alloc (.cells #[.int .u64 x] 22)).alloc (.cells #[.int .u64 0] 22)) 30 (.slice a1 l.length c1)
  simp only [World.size_alloc] at bO bS
  have hB0 : Below w.heap.size w (((w.alloc (.cells #[.int .u64 x] 22)).alloc (.cells #[.int .u64 0] 22)).alloc (.cells #[.slice a1 l.length c1] 30)) := (((Below.refl _ w).alloc (Nat.le_refl _) _).alloc (by simp) _).alloc (by simp; omega) _
  obtain ⟨z, hz⟩ : ∃ z : Nat → W64, ∀ j, (z j).1 = l[j]?.getD 0 := ⟨fun j => ⟨_, row_U64 hrow j⟩, fun _ => rfl⟩
  have Hz := Lib.hid hz
  clear hz
  refine wpIn_rangeFunc_ownG rfl (by omega) (gf := 35) (lb := #[.pointer (some ⟨w.heap.size + 1 + 1, 0, none⟩)]) rfl trivial (enters_of Try.func35 (by kernel_rfl) rfl)
    (back_stops Fence.wide _ trivial rfl (by omega) (w.heap.size + 1 + 1) w.heap.size _ l z Hz.out w _ (Nat.le_refl _) hB0 (by simp) bS.cell hrow) KeepsBox.trans (KeepsBox.b (by simp; omega) (by simp)) (Below.refl _ _) (fun _ => rfl)
    (fun pre W => (W.cell? ⟨w.heap.size, 0, none⟩ = some (.int .u64 x) ∧ W.cell? ⟨w.heap.size + 1, 0, none⟩ = some (.int .u64 (horner x pre)) ∧ W.frozen? ⟨w.heap.size + 1, 0, none⟩ = false) ∧ Below w.heap.size w W)
    (fun _ _ _ => False)
    (OwnFrom.and (Own.from (fun s A B row hs hg hr => ⟨cell_kept hs.1 hg hr, cell_kept hs.2.1 hg hr, (frozen_kept hs.2.1 hg hr).trans hs.2.2⟩) _) (ownFrom_below (Nat.le_refl _) (by simp; omega)))
    (fun _ _ _ _ _ hs _ _ => hs)
    ⟨⟨((bX.alloc _).alloc _).cell, (bO.alloc _).cell, (bO.alloc _).frozen⟩, hB0⟩
    (fun p => { tmps := #[.slice a1 l.length c1, .int .u64 x, undef, .pointer (some ⟨w.heap.size, 0, none⟩), .int .u64 0, .pointer (some ⟨w.heap.size + 1, 0, none⟩), undef, .int .u64 p.2.1, .slice a1 l.length c1,
      .func (.func 35) #[] #[.pointer (some ⟨w.heap.size + 1 + 1, 0, none⟩)], .int .i64 (p.1 : Int), .int .u64 p.2.1, undef, undef, undef, undef, undef, undef], defers := [] }) ?assign ?body ?done ?stop
  case assign =>
    intro L p W K hK
    gi_wp2
    exact hK
  case body =>
    rintro L pre p W ⟨⟨hcx, hco, hfo⟩, hB⟩ _
    have uo := U64.of_rng (horner_rng x pre)
    have um := U64.of_rng (Fm.mul_rng (horner x pre) x)
    have up := p.2.2
    obtain ⟨o, ho⟩ : ∃ o, horner x pre = o := ⟨_, rfl⟩
    rw [ho] at hco uo um
    have Ho := Lib.hid ho
    clear ho
    gi_wp2_with fail
    refine ⟨trivial, ?_⟩
    refine (CallsIn.inRound L (callsIn_wide.2 (Mul_any _ _ _ uo hx))).mono ?_; rintro e w' ⟨rfl, rfl⟩
    gi_wp2_with fail
    refine ⟨trivial, ?_⟩
    refine (CallsIn.inRound L (callsIn_wide.2 (Add_any _ _ _ um up))).mono ?_; rintro e w' ⟨rfl, rfl⟩
    gi_wp2_with fail
    have hk : KeepsBox w.heap.size (w.heap.size + 1 + 1) W (W.setCell ⟨w.heap.size + 1, 0, none⟩ (.int .u64 (Fm.add (Fm.mul o x) p.2.1))) :=
      ⟨(Below.refl w.heap.size W).setCell (p := ⟨w.heap.size + 1, 0, none⟩) (by simp) _, World.cell?_of_block (Below.heap_setCell _ _ _ _ (by simp))⟩
    refine ⟨(KeepsOthers.setCell _ _ _).from _, hk, ⟨?_, ?_, ?_⟩, hB.trans hk.1⟩
    · exact (World.cell?_of_block (Below.heap_setCell _ _ _ _ (by simp))).trans hcx
    · rw [horner_snoc, Ho.out]; exact World.cell?_setCell_same' _ _ _ (by rw [hco]; rfl)
    · rw [World.frozen?_setCell]; exact hfo
  case done =>
    rintro D ys W hD rfl ⟨⟨hcx, hco, hfo⟩, hB⟩ hK
    rw [horner_all x l z Hz.out] at hco
    gi_wp2
    refine ⟨by simp, .inl ⟨_, _, rfl, run_takeDeferred hK, ?_⟩⟩
    exact ⟨_, results_tmp rfl _ _ _, rfl, hB.trans (belowK_b (w := w) (Nat.le_refl _) W D _ _ (by simp at hD; omega) hK rfl rfl)⟩
  case stop =>
    rintro D c pre W _ _ h _
    exact h.elim
end Go.Proofs.Ytnichjocllfocaa
