/-
  The texts Ub Uc in one. (Merged by wip/lay12m.py.)
-/
import Derived.RegionIn
import Derived.BigRegionIn
import Derived.Stop.RegionWithIn
import Derived.Sort.QuietTacIn
import Derived.Sort.BigQuietIn
import Derived.Test.YtlaidjgdipacgaaGreatDoorKb
import Derived.Test.YtlaidjgdipacgaaGreatDoorUa

section
namespace Go.Proofs.YtlaidjgdipacgaaGreatDoor
open Go.RowKit Go.Shelf

attribute [local go_sem] Oper.semAt_some

/-- Which bit: those of a number of L. -/
def Pl (L : Nat) : Type := { j : Nat // j < L }
def plBit (n L j : Nat) : Bool := decide (n / 2 ^ (L - 1 - j) % 2 = 1)
def plVal (n L : Nat) (pre : List Nat) : Nat := pre.foldl (fun v j => 2 * v + (if plBit n L j then 1 else 0)) 0
theorem plVal_snoc (n L : Nat) (pre : List Nat) (j : Nat) : plVal n L (pre ++ [j]) = 2 * plVal n L pre + (if plBit n L j then 1 else 0) := by
  unfold plVal; rw [List.foldl_append]; rfl
theorem plVal_range {n L : Nat} (h : n < 2 ^ L) : ∀ k, k ≤ L → plVal n L (List.range k) = n / 2 ^ (L - k)
  | 0, _ => by
    rw [Nat.sub_zero, Nat.div_eq_of_lt h]; rfl
  | k + 1, hk => by
    rw [List.range_succ, plVal_snoc, plVal_range h k (by omega)]
    have e : L - k = (L - 1 - k) + 1 := by omega
    have e2 : L - (k + 1) = L - 1 - k := by omega
    rw [e, e2, Nat.pow_succ, ← Nat.div_div_eq_div_mul]
    unfold plBit
    generalize n / 2 ^ (L - 1 - k) = q
    by_cases hq : q % 2 = 1
    · simp [hq]; omega
    · simp [hq]; omega
theorem plVal_all {n L : Nat} (h : n < 2 ^ L) : plVal n L (List.range L) = n := by
  rw [plVal_range h L (Nat.le_refl _), Nat.sub_self]; simp

theorem and_pow_ne (n s : Nat) : (n &&& 2 ^ s) ≠ 0 ↔ n / 2 ^ s % 2 = 1 := by
  have ht : n.testBit s = decide (n / 2 ^ s % 2 = 1) := Nat.testBit_eq_decide_div_mod_eq
  constructor
  · intro h
    apply Classical.byContradiction
    intro hn
    refine h (Nat.eq_of_testBit_eq fun i => ?_)
    rw [Nat.testBit_and, Nat.testBit_two_pow, Nat.zero_testBit]
    by_cases e : s = i
    · subst e; rw [ht]; simp [hn]
    · simp [e]
  · intro h h0
    have := congrArg (fun x => Nat.testBit x s) h0
    simp only [Nat.testBit_and, Nat.testBit_two_pow, Nat.zero_testBit] at this
    rw [ht] at this
    simp [h] at this
theorem bit_ne (n s : Nat) (hn : n < 18446744073709551616) (hs : s < 64) : (bits .and .u64 (n : Int) (IntKind.u64.wrap (2 ^ s)) != 0) = decide (n / 2 ^ s % 2 = 1) := by
  have hp : 2 ^ s < 18446744073709551616 := Nat.pow_lt_pow_right (by decide) hs
  have e : IntKind.u64.wrap ((2 : Int) ^ s) = ((2 ^ s : Nat) : Int) := by
    rw [IntKind.wrap_u64]
    have : ((2 : Int) ^ s) = ((2 ^ s : Nat) : Int) := by simp
    rw [this]
    generalize 2 ^ s = q at hp
    omega
  rw [e, u64_and_nat n (2 ^ s) (by omega) (by omega)]
  have := and_pow_ne n s
  generalize n &&& 2 ^ s = q at this
  by_cases h : n / 2 ^ s % 2 = 1
  · have h2 := this.2 h
    rw [decide_eq_true h]
    simp; exact h2
  · have h2 : q = 0 := Classical.byContradiction fun hq => h (this.1 hq)
    rw [decide_eq_false h, h2]; rfl
set_option maxRecDepth 100000 in
set_option maxHeartbeats 2000000 in
theorem places1_in (N : Nat) (hn : 1 ≤ N) (l Bn n₀ n L : Nat) (hL : Lib.bitLen n = L) (hL64 : L ≤ 64) (h64 : n < 18446744073709551616) (J Jx : List (Pl L) → World → Prop)
    (hdr : ∀ pre W k, J pre W → J pre (W.drewN k))
    (hY : ∀ pre x W, J pre W → pre.length < L → YieldAt Fence.wide (N - 1) Tryz.prog l #[.bool (plBit n L x.1)] W fun e W' =>
      (e = .returned (.bool true) ∧ J (pre ++ [x]) W' ∧ KeepsBox n₀ Bn W W') ∨ (e = .returned (.bool false) ∧ Jx (pre ++ [x]) W'))
    (W : World) (hBn : W.cell? ⟨Bn, 0, none⟩ = some (.int .u64 n)) (h0 : J [] W) :
    CallsIn Fence.wide N Tryz.prog 120 #[.func (.yield l) #[] #[], .pointer (some ⟨Bn, 0, none⟩)] W fun e W' => (∃ v, e = .returned v) ∧
      ((∃ ys : List (Pl L), ys.map (·.1) = List.range L ∧ J ys W') ∨ (∃ pre, pre.map (·.1) = List.range pre.length ∧ Jx pre W')) := by
  refine callsIn_of_wp Tryz.func120 rfl trivial ?_ rfl
  simp only [Tryz.ntmps120, List.size_toArray, List.length_cons, List.length_nil, Nat.reduceAdd, Nat.reduceSub, Array.replicate_succ, Array.replicate_zero, List.push_toArray, List.append_toArray, List.nil_append, List.cons_append]
  have e0 : IntKind.i64.wrap ((L : Int) - 1) = (L : Int) - 1 := IntWalk.i64_in _ (by omega)
  gi_wp2_with (refine ⟨trivial, ?_⟩; gi_at_call 112; refine (callsIn_wide.2 (Sh.bits_Len64 (n : Int) _ (by omega) (by omega))).mono ?_; rintro e w' ⟨rfl, hw'⟩; subst w'; rw [Int.toNat_natCast, hL])
  gi_loopw [3] (fun i wr => ∃ k : Nat, k ≤ L ∧ i = .int .i64 ((L : Int) - 1 - k) ∧ (∃ pre : List (Pl L), pre.length = k ∧ pre.map (·.1) = List.range k ∧ J pre wr) ∧ KeepsBox n₀ Bn W wr) (fun i _ => (intOf i + 1).toNat)
  case atStart => exact ⟨0, Nat.zero_le _, by go_num, ⟨[], rfl, rfl, h0⟩, KeepsBox.refl _ _ _⟩
  case round =>
    obtain ⟨k, hk, rfl, ⟨pre, hpl, hpm, hJs⟩, hkn⟩ := hrel
    have g2 := hkn.2.trans hBn
    by_cases hlt : k < L
    · obtain ⟨s, hs⟩ : ∃ s, L - 1 - k = s := ⟨_, rfl⟩
      have hs2 : (L : Int) - 1 - k = s := by omega
      have e1 : IntKind.i64.wrap ((s : Int) - 1) = (s : Int) - 1 := IntWalk.i64_in _ (by omega)
      have hs0 : (0 : Int) ≤ s := by omega
      have hs64 : s < 64 := by omega
      rw [hs2]
      gi_wp2_with fail
      have hbit : (bits .and .u64 (n : Int) (IntKind.u64.wrap (2 ^ s)) != 0) = plBit n L k := by rw [bit_ne n s h64 hs64]; unfold plBit; rw [hs]
      obtain ⟨fn, tmps, assign, body, hy, hR⟩ := hY pre ⟨k, hlt⟩ wr.drew (hdr pre wr 1 hJs) (by omega)
      dsimp only at hy
      rw [← hbit] at hy
      have hR' := hR.mono (R' := fun e W' => ∃ c, e = .returned (.bool c) ∧ ((c = true ∧ J (pre ++ [⟨k, hlt⟩]) W' ∧ KeepsBox n₀ Bn wr.drew W') ∨ (c = false ∧ Jx (pre ++ [⟨k, hlt⟩]) W'))) (fun e W' h => by
        rcases h with ⟨rfl, h⟩ | ⟨rfl, h⟩
        · exact ⟨true, rfl, .inl ⟨rfl, h⟩⟩
        · exact ⟨false, rfl, .inr ⟨rfl, h⟩⟩)
      clear hR
      have HPl := Lib.hid hpl; have HPm := Lib.hid hpm; have HS := Lib.hid hs; have HS2 := Lib.hid hs2
      clear hY hJs hbit hpl hpm hs hs2
      gi_region_with (first
        | (refine hR'.mono ?_; rintro e W5 ⟨c, rfl, hc⟩)
        | fail)
      all_goals
        rcases hc with ⟨rfl, hJ5, hk5⟩ | ⟨rfl, hJx5⟩
        · gi_wp2_with fail
          go_roundw
          case rel => exact ⟨k + 1, by omega, by have := HS2.out; go_num, ⟨pre ++ [⟨k, hlt⟩], by rw [List.length_append, HPl.out]; rfl, by rw [List.map_append, HPm.out, List.range_succ]; rfl, hJ5⟩, (hkn.drewN 1).trans hk5⟩
          case measure => simp [intOf] <;> omega
        · gi_wp2_with fail
          refine bodyPost_ret (results_none rfl _ _ _) rfl ?_
          exact ⟨⟨_, rfl⟩, .inr ⟨pre ++ [⟨k, hlt⟩], by rw [List.map_append, HPm.out, List.length_append, HPl.out]; exact List.range_succ.symm, hJx5⟩⟩
    · obtain rfl : k = L := by omega
      gi_wp2
      go_end0
      exact ⟨⟨_, rfl⟩, .inl ⟨pre, hpm, hJs⟩⟩
theorem places_in (F : Fence) (N : Nat) (hf : F.fn 93) (hro : F.round = none) (n : Int) (w : World) :
    CallsIn F N Tryz.prog 93 #[.int .u64 n] w fun e w' => e = .returned (.func (.func 120) #[] #[.pointer (some ⟨w.heap.size, 0, none⟩)]) ∧ w' = w.alloc (.cells #[.int .u64 n] 25) := by
  refine callsIn_of_wp Tryz.func93 rfl hf ?_ hro
  simp only [Tryz.ntmps93, List.size_toArray, List.length_cons, List.length_nil, Nat.reduceAdd, Nat.reduceSub, Array.replicate_succ, Array.replicate_zero, List.push_toArray, List.append_toArray, List.nil_append, List.cons_append]
  gi_wp2
  go_ret
  exact ⟨rfl, rfl⟩
theorem places_stops (N : Nat) (hn : 1 ≤ N) (Bn n₀ n L : Nat) (hL : Lib.bitLen n = L) (hL64 : L ≤ 64) (h64 : n < 18446744073709551616) (w : World) (hBn : Bn < w.heap.size) (hc : w.cell? ⟨Bn, 0, none⟩ = some (.int .u64 n)) :
    SeqStopsK Fence.wide N Tryz.prog 120 #[.pointer (some ⟨Bn, 0, none⟩)] (fun x : Pl L => #[Value.bool (plBit n L x.1)]) (KeepsBox n₀ Bn)
      (fun ys => ys.map (·.1) = List.range L) (fun _ => True) L w := fun l J Jx W hW hJ _ hY hJ0 => by
  have hc' := (hW.cell (p := ⟨Bn, 0, none⟩) hBn).trans hc
  refine (places1_in N hn l Bn n₀ n L hL hL64 h64 J Jx (fun pre W1 k hj => hJ pre W1 _ none hj ⟨rfl, rfl, rfl, Nat.le_refl _, fun _ _ _ => rfl⟩ (fun r e => by cases e)) hY W hc' hJ0).mono ?_
  rintro e W' ⟨he, ⟨ys, h1, h2⟩ | ⟨pre, _, h2⟩⟩
  · exact ⟨he, .inl ⟨ys, h1, h2⟩⟩
  · exact ⟨he, .inr ⟨pre, trivial, h2⟩⟩

theorem bitLen_spec : ∀ (f x : Nat), x < 2 ^ f → f ≤ 64 → x < 2 ^ Lib.bitLen x ∧ Lib.bitLen x ≤ f
  | 0, x, h, _ => by
    obtain rfl : x = 0 := by simpa using h
    exact ⟨by decide, by decide⟩
  | f + 1, x, h, hf => by
    by_cases h0 : x = 0
    · subst h0; exact ⟨by decide, Nat.zero_le _⟩
    · have hx64 : x < 2 ^ 64 := Nat.lt_of_lt_of_le h (Nat.pow_le_pow_right (by decide) hf)
      have hb := Lib.bitLen_half x h0 hx64
      obtain ⟨i1, i2⟩ := bitLen_spec f (x / 2) (by rw [Nat.pow_succ] at h; omega) (by omega)
      rw [hb, Nat.add_comm, Nat.pow_succ]
      exact ⟨by omega, by omega⟩
/-- What power's round holds. -/
structure PwSt (N B : Nat) (a n o : Int) (W X : World) : Prop where
  f : Boxed X B 71 (.func (.func 56) #[.int .u64 2305843009213691579] #[])
  a : Boxed X (B + 1) 25 (.int .u64 a)
  o : Boxed X (B + 1 + 1) 25 (.int .u64 o)
  n : Boxed X (B + 1 + 1 + 1) 25 (.int .u64 n)
  k : KeepsFrom N W X
  b : KeepsBox B (B + 1 + 1 + 1) W X
theorem PwSt.call {N B : Nat} {a n o : Int} {W X Y : World} (h : PwSt N B a n o W X) (hb : Below X.heap.size X Y) : PwSt N B a n o W Y :=
  ⟨(hb.block _ h.f.lt).trans h.f, (hb.block _ h.a.lt).trans h.a, (hb.block _ h.o.lt).trans h.o, (hb.block _ h.n.lt).trans h.n,
    h.k.trans ⟨hb.size, fun k o _ hk _ => (hb.block k (Array.getElem?_eq_some_iff.1 hk).1).trans hk⟩,
    h.b.trans ⟨hb.mono (by have := h.f.lt; omega), hb.cell (p := ⟨B + 1 + 1 + 1, 0, none⟩) h.n.lt⟩⟩
theorem PwSt.store {N B : Nat} {a n o : Int} {W X : World} (h : PwSt N B a n o W X) (hN : B + 1 + 1 < N) (z : Int) : PwSt N B a n z W (X.setCell ⟨B + 1 + 1, 0, none⟩ (.int .u64 z)) := by
  have far : ∀ k, k ≠ B + 1 + 1 → (X.setCell ⟨B + 1 + 1, 0, none⟩ (.int .u64 z)).heap[k]? = X.heap[k]? := fun k hk => Below.heap_setCell X ⟨B + 1 + 1, 0, none⟩ _ k hk
  refine ⟨(far B (by omega)).trans h.f, (far (B + 1) (by omega)).trans h.a, h.o.set _, (far (B + 1 + 1 + 1) (by omega)).trans h.n, h.k.trans ⟨by simp, fun k o hk ho _ => (far k (by omega)).trans ho⟩, h.b.trans ⟨(Below.refl B X).setCell (p := ⟨B + 1 + 1, 0, none⟩) (show B ≤ B + 1 + 1 by omega) _, ?_⟩⟩
  exact World.cell?_setCell_other X ⟨B + 1 + 1, 0, none⟩ ⟨B + 1 + 1 + 1, 0, none⟩ _ (by simp)
set_option maxRecDepth 100000 in
set_option maxHeartbeats 2000000 in
theorem power_any (a : Int) (n : Nat) (w : World) (a0 : 0 ≤ a) (a1 : a < 18446744073709551616) (hn : n < 18446744073709551616) :
    Calls Tryz.prog 59 #[.func (.func 56) #[.int .u64 2305843009213691579] #[], .int .u64 a, .int .u64 n] w fun e w' => e = .returned (.int .u64 (Gm.pow Gm.Q a n)) ∧ Below w.heap.size w w' := by
  obtain ⟨L, hL⟩ : ∃ L, Lib.bitLen n = L := ⟨_, rfl⟩
  have hnL : n < 2 ^ L := by rw [← hL]; exact (bitLen_spec 64 n hn (Nat.le_refl _)).1
  have hL64 : L ≤ 64 := by rw [← hL]; exact (bitLen_spec 64 n hn (Nat.le_refl _)).2
  have HnL := Lib.hid hnL
  clear hnL
  obtain ⟨B, hB⟩ : ∃ B, w.heap.size = B := ⟨_, rfl⟩
  refine (callsIn_wide (n := 5)).1 ?_
  refine callsIn_of_wp_marks Tryz.func59 rfl trivial ?_ rfl
  simp only [Tryz.ntmps59, List.size_toArray, List.length_cons, List.length_nil, Nat.reduceAdd, Nat.reduceSub, Array.replicate_succ, Array.replicate_zero, List.push_toArray, List.append_toArray, List.nil_append, List.cons_append]
  gi_wp2_with (refine ⟨trivial, ?_⟩; gi_at_call 93; refine (places_in Fence.wide _ trivial rfl _ _).mono ?_; rintro e w' ⟨rfl, rfl⟩)
  have bF := Boxed.new w 71 (.func (.func 56) #[.int .u64 2305843009213691579] #[])
  have bA := Boxed.new (w.alloc (.cells #[.func (.func 56) #[.int .u64 2305843009213691579] #[]] 71)) 25 (.int .u64 a)
  have bO := Boxed.new ((w.alloc (.cells #[.func (.func 56) #[.int .u64 2305843009213691579] #[]] 71)).alloc (.cells #[.int .u64 a] 25)) 25 (.int .u64 1)
  have bN := Boxed.new (((w.alloc (.cells #[.func (.func 56) #[.int .u64 2305843009213691579] #[]] 71)).alloc (.cells #[.int .u64 a] 25)).alloc (.cells #[.int .u64 1] 25)) 25 (.int .u64 n)
  have bF := ((bF.alloc (.cells #[.int .u64 a] 25)).alloc (.cells #[.int .u64 1] 25)).alloc (.cells #[.int .u64 n] 25)
  have bA := (bA.alloc (.cells #[.int .u64 1] 25)).alloc (.cells #[.int .u64 n] 25)
  have bO := bO.alloc (.cells #[.int .u64 n] 25)
  have hB0 : Below w.heap.size w ((((w.alloc (.cells #[.func (.func 56) #[.int .u64 2305843009213691579] #[]] 71)).alloc (.cells #[.int .u64 a] 25)).alloc (.cells #[.int .u64 1] 25)).alloc (.cells #[.int .u64 n] 25)) :=
    ((((Below.refl _ w).alloc (Nat.le_refl _) _).alloc (by simp) _).alloc (by simp; omega) _).alloc (by simp; omega) _
  have hszW : ((((w.alloc (.cells #[.func (.func 56) #[.int .u64 2305843009213691579] #[]] 71)).alloc (.cells #[.int .u64 a] 25)).alloc (.cells #[.int .u64 1] 25)).alloc (.cells #[.int .u64 n] 25)).heap.size = B + 4 := by simp [hB]
  simp only [World.size_alloc, hB] at bF bA bO bN
  obtain ⟨V, hV⟩ : ∃ V, ((((w.alloc (.cells #[.func (.func 56) #[.int .u64 2305843009213691579] #[]] 71)).alloc (.cells #[.int .u64 a] 25)).alloc (.cells #[.int .u64 1] 25)).alloc (.cells #[.int .u64 n] 25)) = V := ⟨_, rfl⟩
  rw [hV] at bF bA bO bN hB0 hszW ⊢
  rw [hB] at hB0
  clear hV
  have hp0 : Gm.pow Gm.Q a (plVal n L (([] : List (Pl L)).map (·.1))) = 1 := by show a ^ 0 % Gm.Q = 1; rw [Int.pow_zero]; rfl
  refine wpIn_rangeFunc_ownG rfl (by omega) (gf := 120) (lb := #[.pointer (some ⟨B + 1 + 1 + 1, 0, none⟩)]) rfl trivial (enters_of Tryz.func120 (by kernel_rfl) rfl)
    (places_stops _ (by omega) (B + 1 + 1 + 1) B n L hL hL64 hn _ (by omega) bN.cell) KeepsBox.trans (KeepsBox.b (by omega) (by omega)) (Below.refl _ _) (fun _ => rfl)
    (fun pre W => Boxed W B 71 (.func (.func 56) #[.int .u64 2305843009213691579] #[]) ∧ Boxed W (B + 1) 25 (.int .u64 a) ∧ Boxed W (B + 1 + 1) 25 (.int .u64 (Gm.pow Gm.Q a (plVal n L (pre.map (·.1))))) ∧ Boxed W (B + 1 + 1 + 1) 25 (.int .u64 n) ∧ Below B w W)
    (fun _ _ _ => False)
    (OwnFrom.and (Own.from (boxed_own B _ (fun _ => _)) _) (OwnFrom.and (Own.from (boxed_own (B + 1) _ (fun _ => _)) _) (OwnFrom.and (Own.from (boxed_own (B + 1 + 1) _ (fun pre : List (Pl L) => .int .u64 (Gm.pow Gm.Q a (plVal n L (pre.map (·.1)))))) _) (OwnFrom.and (Own.from (boxed_own (B + 1 + 1 + 1) _ (fun _ => _)) _) (ownFrom_below (by omega) (by omega))))))
    (fun _ _ _ _ _ hs _ _ => hs)
    ⟨bF, bA, (by rw [hp0]; exact bO), bN, hB0⟩
    (fun x => { tmps := #[.func (.func 56) #[.int .u64 2305843009213691579] #[], .int .u64 a, .int .u64 n, .pointer (some ⟨B, 0, none⟩), .pointer (some ⟨B + 1, 0, none⟩), undef, .int .u64 0, .pointer (some ⟨B + 1 + 1, 0, none⟩), .bool (plBit n L x.1), .int .u64 n,
      .func (.func 120) #[] #[.pointer (some ⟨B + 1 + 1 + 1, 0, none⟩)], .bool (plBit n L x.1), undef, undef, undef, undef, undef, undef, undef, undef, undef, undef], defers := [] }) ?assign ?body ?done ?stop
  case assign =>
    intro l x W K hK
    gi_wp2
    exact hK
  case body =>
    rintro l pre x W ⟨bF, bA, bO, bN, hB2⟩ hpl
    obtain ⟨j, hj⟩ := x
    dsimp only at *
    obtain ⟨o, ho⟩ : ∃ o, Gm.pow Gm.Q a (plVal n L (pre.map (·.1))) = o := ⟨_, rfl⟩
    have hor := Gm.rng Gm.Q_pos (a ^ plVal n L (pre.map (·.1)))
    rw [show a ^ plVal n L (pre.map (·.1)) % Gm.Q = o from ho] at hor
    have hQ : Gm.Q = 2305843009213691579 := rfl
    rw [ho] at bO
    obtain ⟨z1, hz1⟩ : ∃ z, Gm.mul Gm.Q o o = z := ⟨_, rfl⟩
    obtain ⟨z2, hz2⟩ : ∃ z, Gm.mul Gm.Q z1 a = z := ⟨_, rfl⟩
    have hzr := Gm.rng Gm.Q_pos (o * o)
    rw [show o * o % Gm.Q = z1 from hz1] at hzr
    have M1 := fun W => rmul_any modl_Q o o W (by omega) (by omega) (by omega) (by omega)
    have M2 := fun W => rmul_any modl_Q z1 a W (by omega) (by omega) (by omega) (by omega)
    rw [show Gm.mul 2305843009213691579 o o = z1 from hz1] at M1
    rw [show Gm.mul 2305843009213691579 z1 a = z2 from hz2] at M2
    have hsn : Gm.pow Gm.Q a (plVal n L (List.map (fun x : Pl L => x.1) (List.append pre [(⟨j, hj⟩ : Pl L)]))) = if plBit n L j then z2 else z1 := by
      have em : List.map (fun x : Pl L => x.1) (List.append pre [(⟨j, hj⟩ : Pl L)]) = pre.map (·.1) ++ [j] := List.map_append
      rw [em]
      rw [plVal_snoc, ← hz2, ← hz1, ← ho]
      obtain ⟨q, hq⟩ : ∃ q, plVal n L (pre.map (·.1)) = q := ⟨_, rfl⟩
      rw [hq, Gm.mul_pow]
      have e1 : Gm.pow Gm.Q a (q + q) = Gm.pow Gm.Q a (2 * q) := by congr 1; omega
      rw [e1]
      cases plBit n L j
      · simp
      · simp only [if_true]
        have := Gm.mul_pow Gm.Q a (2 * q) 1
        rw [← this]
        unfold Gm.mul Gm.pow
        rw [Int.pow_succ, Int.pow_zero, Int.one_mul, Int.mul_emod, Int.emod_emod, Int.emod_emod, ← Int.mul_emod, Int.mul_emod (a ^ (2 * q) % Gm.Q) a, Int.emod_emod, ← Int.mul_emod]
    have HSn := Lib.hid hsn
    have st0 : PwSt V.heap.size B a n o W W := ⟨bF, bA, bO, bN, KeepsFrom.refl _ _, KeepsBox.refl _ _ _⟩
    have cF := bF.cell; have cO := bO.cell; have fO := bO.frozen; have lO := bO.lt; have cA := bA.cell
    have hN2 : B + 1 + 1 < V.heap.size := by omega
    have St0 := Lib.hid st0; have HW := Lib.hid hB2; have HN2 := Lib.hid hN2
    clear hsn ho hz1 hz2 hor hzr st0 bF bA bO bN hN2
    cases hbit : plBit n L j with
    | false =>
      gi_wp2_with (first
        | (refine ⟨trivial, ?_⟩; gi_at_call 56; refine (callsIn_wide.2 (M1 _)).mono ?_; rintro e w1 ⟨rfl, hb1⟩; have st1 := St0.out.call hb1; have cO1 := st1.o.cell; have fO1 := st1.o.frozen; have lO1 := st1.o.lt)
        | fail)
      have st2 := st1.store HN2.out z1
      refine ⟨st2.k, st2.b, st2.f, st2.a, ?_, st2.n, HW.out.trans st2.b.1⟩
      have e := HSn.out
      rw [hbit] at e
      exact (congrArg (fun q => Boxed (w1.setCell ⟨B + 1 + 1, 0, none⟩ (.int .u64 z1)) (B + 1 + 1) 25 (.int .u64 q)) e).mpr st2.o
    | true =>
      gi_wp2_with (first
        | (refine ⟨trivial, ?_⟩; gi_at_call 56; refine (callsIn_wide.2 (M1 _)).mono ?_; rintro e w1 ⟨rfl, hb1⟩; have st1 := St0.out.call hb1; have cO1 := st1.o.cell; have fO1 := st1.o.frozen; have lO1 := st1.o.lt; have cF1 := st1.f.cell; have cA1 := st1.a.cell; have lF1 := st1.f.lt; have lA1 := st1.a.lt; clear M1; have S1 := Lib.hid st1; clear st1 hb1)
        | (refine ⟨trivial, ?_⟩; gi_at_call 56; refine (callsIn_wide.2 (M2 _)).mono ?_; rintro e w3 ⟨rfl, hb3⟩; have st3 := (S1.out.store HN2.out z1).call hb3; have cO3 := st3.o.cell; have fO3 := st3.o.frozen; have lO3 := st3.o.lt)
        | fail)
      have st4 := st3.store HN2.out z2
      refine ⟨st4.k, st4.b, st4.f, st4.a, ?_, st4.n, HW.out.trans st4.b.1⟩
      have e := HSn.out
      rw [hbit] at e
      exact (congrArg (fun q => Boxed (w3.setCell ⟨B + 1 + 1, 0, none⟩ (.int .u64 z2)) (B + 1 + 1) 25 (.int .u64 q)) e).mpr st4.o
  case done =>
    rintro D ys W hD hys ⟨bF, bA, bO, bN, hB2⟩ hK
    have hc := bO.cell
    rw [hys, plVal_all HnL.out] at hc
    gi_wp2
    refine ⟨by simp, .inl ⟨_, _, rfl, run_takeDeferred hK, ?_⟩⟩
    exact ⟨_, results_tmp rfl _ _ _, rfl, by rw [hB]; exact hB2.trans (belowK_b (w := w) (by omega) W D _ _ (by omega) hK rfl rfl)⟩
  case stop =>
    rintro D c pre W _ _ h _
    exact h.elim
theorem Pow_any (a n : Int) (w : World) (a0 : 0 ≤ a) (a1 : a < 18446744073709551616) (n0 : 0 ≤ n) (n1 : n < 18446744073709551616) :
    Calls Tryz.prog 32 #[.int .u64 a, .int .u64 n] w fun e w' => e = .returned (.int .u64 (Gm.pow Gm.Q a n.toNat)) ∧ Below w.heap.size w w' := by
  have S := fun W => power_any a n.toNat W a0 a1 (by omega)
  rw [Int.toNat_of_nonneg n0] at S
  go_enter Tryz.func32, Tryz.ntmps32
  go_wp2_with fail
  refine (S _).mono ?_; rintro e w' ⟨rfl, hb⟩
  go_wp2_with fail
  go_ret
  exact ⟨rfl, hb⟩
theorem Base_any (n : Int) (w : World) (n0 : 0 ≤ n) (n1 : n < 18446744073709551616) :
    Calls Tryz.prog 26 #[.int .u64 n] w fun e w' => e = .returned (.int .u64 (Gm.base n)) ∧ Below w.heap.size w w' := by
  have S := fun W => Pow_any 4 n W (by decide) (by decide) n0 n1
  go_enter Tryz.func26, Tryz.ntmps26
  go_wp2_with fail
  refine (S _).mono ?_; rintro e w' ⟨rfl, hb⟩
  go_wp2_with fail
  go_ret
  exact ⟨rfl, hb⟩
/-- What is of the group is told to be. -/
theorem In_yes (x : Int) (w : World) (h : 0 < x ∧ x < Gm.Q ∧ Gm.pow Gm.Q x Gm.RN = 1) :
    Calls Tryz.prog 30 #[.int .u64 x] w fun e w' => e = .returned (.bool true) ∧ Below w.heap.size w w' := by
  obtain ⟨x0, x1, xr⟩ := h
  have hQ : Gm.Q = 2305843009213691579 := rfl
  rw [hQ] at x1
  have S := fun W => Pow_any x 1152921504606845789 W (by omega) (by omega) (by decide) (by decide)
  rw [show Gm.pow Gm.Q x (1152921504606845789 : Int).toNat = 1 from xr] at S
  clear xr
  go_enter Tryz.func30, Tryz.ntmps30
  go_wp2_with fail
  refine (S _).mono ?_; rintro e w' ⟨rfl, hb⟩
  go_wp2_with fail
  go_ret
  exact ⟨rfl, hb⟩
end Go.Proofs.YtlaidjgdipacgaaGreatDoor
end

section
namespace Go.Proofs.YtlaidjgdipacgaaGreatDoor
open Go.RowKit

namespace Gm
theorem gcd_step (r s : Int) (h0 : 0 ≤ r) (h1 : 0 < s) : Int.gcd s (r - r / s * s) = Int.gcd r s := by
  obtain ⟨n, rfl⟩ := Int.eq_ofNat_of_zero_le h0
  obtain ⟨k, rfl⟩ := Int.eq_ofNat_of_zero_le (Int.le_of_lt h1)
  have e : (n : Int) - (n : Int) / (k : Int) * (k : Int) = ((n % k : Nat) : Int) := by
    have := Int.mul_ediv_add_emod (n : Int) (k : Int)
    rw [Int.mul_comm] at this
    simp; omega
  rw [e]
  show Nat.gcd k (n % k) = Nat.gcd n k
  rw [Nat.gcd_comm k (n % k), ← Nat.gcd_rec, Nat.gcd_comm]
/-- What holds between the steps. -/
structure Eu (m a x y u v : Int) : Prop where
  x0 : 0 < x
  xm : x ≤ m
  y0 : 0 ≤ y
  ym : y ≤ m
  g : Int.gcd x y = 1
  ux : (u * a) % m = x % m
  vy : (v * a) % m = y % m
  sgn : ∃ s p q, (s = 1 ∨ s = -1) ∧ 0 ≤ p ∧ 0 ≤ q ∧ u = s * p ∧ v = -(s * q) ∧ p * y + q * x = m ∧ p ≤ m ∧ q ≤ m
theorem inv_nz {m a y : Int} (_hm : 1 < m) (h : mul m y a = 1) : a % m ≠ 0 := fun h0 => by
  unfold mul at h
  rw [Int.mul_emod, h0, Int.mul_zero, Int.zero_emod] at h
  cases h
theorem Eu.start {m a y : Int} (hm : 1 < m) (h : mul m y a = 1) : Eu m a (a % m) m 1 0 := by
  have hn := inv_nz hm h
  have r := rng (show 0 < m by omega) a
  refine ⟨by omega, by omega, by omega, Int.le_refl _, ?_, ?_, ?_, 1, 1, 0, .inl rfl, by decide, by decide, by decide, by decide, by omega, by omega, by omega⟩
  · obtain ⟨d, hd⟩ : ∃ d, Int.gcd (a % m) m = d := ⟨_, rfl⟩
    have d1 : (d : Int) ∣ a % m := by rw [← hd]; exact Int.gcd_dvd_left ..
    have d2 : (d : Int) ∣ m := by rw [← hd]; exact Int.gcd_dvd_right ..
    have d3 : (d : Int) ∣ a := by
      have e := Int.mul_ediv_add_emod a m
      rw [← e]
      exact Int.dvd_add (Int.dvd_trans d2 (Int.dvd_mul_right _ _)) d1
    have d4 : (d : Int) ∣ 1 := by
      have e := Int.mul_ediv_add_emod (y * a) m
      have h' : y * a % m = 1 := h
      rw [h'] at e
      have e2 : (1 : Int) = y * a - m * (y * a / m) := by omega
      rw [e2]
      exact Int.dvd_sub (Int.dvd_trans d3 (Int.dvd_mul_left _ _)) (Int.dvd_trans d2 (Int.dvd_mul_right _ _))
    rw [hd]
    have := Int.le_of_dvd (by decide) d4
    have : d ≠ 0 := by
      rintro rfl
      have := Int.zero_dvd.1 d4
      cases this
    omega
  · rw [Int.one_mul, Int.emod_emod]
  · rw [Int.zero_mul]; simp
theorem Eu.step {m a x y u v : Int} (h : Eu m a x y u v) (hy : y ≠ 0) : ∃ k K V : Int, x / y = k ∧ k * y = K ∧ k * v = V ∧ 0 ≤ k ∧ k ≤ m ∧ 0 ≤ K ∧ K ≤ x ∧ x - K < y ∧ -m ≤ V ∧ V ≤ m ∧ -m ≤ u - V ∧ u - V ≤ m ∧ Eu m a y (x - K) v (u - V) := by
  obtain ⟨x0, xm, y0, ym, g, ux, vy, s, p, q, hs, p0, q0, rfl, rfl, hpq, pm, qm⟩ := h
  have yp : 0 < y := by omega
  obtain ⟨k, hk⟩ : ∃ k, x / y = k := ⟨_, rfl⟩
  have k0 : 0 ≤ k := by rw [← hk]; exact Int.ediv_nonneg (by omega) y0
  have e1 := Int.mul_ediv_add_emod x y
  have r := rng yp x
  rw [hk, Int.mul_comm] at e1
  have kx : k ≤ x := by rw [← hk]; exact Int.ediv_le_self _ (by omega)
  have kq0 : 0 ≤ k * q := Int.mul_nonneg k0 q0
  have hq' : (p + k * q) * y + q * (x - k * y) = m := by
    rw [← hpq, Int.add_mul, Int.mul_sub]
    have : q * (k * y) = k * q * y := by rw [← Int.mul_assoc, Int.mul_comm q k]
    omega
  have hb : p + k * q ≤ m := by
    have h1 : 0 ≤ q * (x - k * y) := Int.mul_nonneg q0 (by omega)
    have h2 : (p + k * q) * 1 ≤ (p + k * q) * y := Int.mul_le_mul_of_nonneg_left (by omega) (by omega)
    omega
  have ev : k * (-(s * q)) = -(s * (k * q)) := by
    rw [Int.mul_neg, ← Int.mul_assoc, Int.mul_comm k s, Int.mul_assoc]
  have eu : s * p - k * (-(s * q)) = s * (p + k * q) := by rw [ev, Int.mul_add]; omega
  have K0 : 0 ≤ k * y := Int.mul_nonneg k0 y0
  refine ⟨k, k * y, k * (-(s * q)), hk, rfl, rfl, k0, by omega, K0, by omega, by omega, ?_, ?_, ?_, ?_, ?_⟩
  · rw [ev]; rcases hs with rfl | rfl <;> omega
  · rw [ev]; rcases hs with rfl | rfl <;> omega
  · rw [eu]; rcases hs with rfl | rfl <;> omega
  · rw [eu]; rcases hs with rfl | rfl <;> omega
  · refine ⟨yp, ym, by omega, by omega, ?_, vy, ?_, -s, q, p + k * q, ?_, q0, by omega, ?_, ?_, ?_, qm, hb⟩
    · have := gcd_step x y (by omega) yp
      rw [hk] at this
      rw [this, g]
    · rw [Int.sub_mul, Int.sub_emod, ux, Int.mul_assoc, Int.mul_emod k, vy, ← Int.mul_emod, ← Int.sub_emod]
    · rcases hs with rfl | rfl
      · exact .inr rfl
      · exact .inl rfl
    · rw [Int.neg_mul]
    · rw [eu, Int.neg_mul, Int.neg_neg]
    · rw [Int.add_comm]; exact hq'
theorem Eu.done {m a x u v : Int} (hm : 1 < m) (h : Eu m a x 0 u v) : (0 ≤ u → u < m ∧ mul m u a = 1) ∧ (u < 0 → 0 ≤ u + m ∧ u + m < m ∧ mul m (u + m) a = 1) ∧ -m ≤ u ∧ u ≤ m := by
  obtain ⟨x0, xm, -, -, g, ux, -, s, p, q, hs, p0, q0, rfl, rfl, hpq, pm, qm⟩ := h
  have hx : x = 1 := by
    have : Int.gcd x 0 = x.natAbs := by simp
    rw [this] at g
    omega
  subst hx
  have h1 : (1 : Int) % m = 1 := Int.emod_eq_of_lt (by decide) hm
  rw [h1] at ux
  refine ⟨fun h0 => ⟨?_, ux⟩, fun h0 => ⟨?_, by omega, ?_⟩, ?_, ?_⟩
  · rcases hs with rfl | rfl
    · apply Classical.byContradiction
      intro hn
      have : p = m := by omega
      subst this
      rw [Int.one_mul, Int.mul_emod, Int.emod_self, Int.zero_mul, Int.zero_emod] at ux
      cases ux
    · omega
  · rcases hs with rfl | rfl <;> omega
  · show (s * p + m) * a % m = 1
    rw [Int.add_mul, Int.add_emod, Int.mul_emod_right, Int.add_zero, Int.emod_emod]
    exact ux
  · rcases hs with rfl | rfl <;> omega
  · rcases hs with rfl | rfl <;> omega
end Gm

set_option maxRecDepth 100000 in
set_option maxHeartbeats 2000000 in
theorem inverse_any {m : Int} (hm : Modl m) (hm61 : m < 2305843009213693952) (a y : Int) (w : World) (a0 : 0 ≤ a) (_a1 : a < 18446744073709551616) (h : Gm.mul m y a = 1) :
    Calls Tryz.prog 58 #[.int .u64 m, .int .u64 a] w fun e w' => (∃ z, e = .returned (.tuple #[.int .u64 z, .int .i64 0]) ∧ 0 ≤ z ∧ z < m ∧ Gm.mul m z a = 1) ∧ Below w.heap.size w w' := by
  have m8 := hm.lo
  have hst := Gm.Eu.start (by omega) h
  have e1 : a.tmod m = a % m := Int.tmod_eq_emod_of_nonneg a0
  obtain ⟨x, hx⟩ : ∃ x, a % m = x := ⟨_, rfl⟩
  rw [hx] at hst e1
  have hx0 := hst.x0; have hxm := hst.xm
  have e2 : IntKind.u64.wrap x = x := by rw [IntKind.wrap_u64]; omega
  have hxz : ¬ x = 0 := by omega
  have hmz : ¬ m = 0 := by omega
  have HSt := Lib.hid hst
  clear hst hx h hm
  go_enter Tryz.func58, Tryz.ntmps58
  go_wp2_with fail
  go_loopw [6, 7, 8, 9] (fun X Y U V wr => ∃ x y u v : Int, X = .int .u64 x ∧ Y = .int .u64 y ∧ U = .int .i64 u ∧ V = .int .i64 v ∧ Gm.Eu m a x y u v ∧ w = wr) (fun _ Y _ _ _ => (intOf Y).toNat)
  case atStart => exact ⟨x, m, 1, 0, rfl, rfl, rfl, rfl, HSt.out, rfl⟩
  case round =>
    obtain ⟨x, y, u, v, rfl, rfl, rfl, rfl, hE, rfl⟩ := hrel
    by_cases hy : y = 0
    · subst hy
      obtain ⟨d1, d2, d3, d4⟩ := hE.done (by omega)
      have e3 : IntKind.i64.wrap m = m := IntWalk.i64_in _ (by omega)
      by_cases hu : u < 0
      · obtain ⟨z0, z1, z2⟩ := d2 hu
        have e4 : IntKind.i64.wrap (u + m) = u + m := IntWalk.i64_in _ (by omega)
        have e5 : IntKind.u64.wrap (u + m) = u + m := by rw [IntKind.wrap_u64]; omega
        clear d1 d2
        go_wp2_with fail
        go_ret2
        exact ⟨⟨_, rfl, z0, z1, z2⟩, Below.refl _ _⟩
      · obtain ⟨z1, z2⟩ := d1 (by omega)
        have e5 : IntKind.u64.wrap u = u := by rw [IntKind.wrap_u64]; omega
        clear d1 d2
        go_wp2_with fail
        go_ret2
        exact ⟨⟨_, rfl, by omega, z1, z2⟩, Below.refl _ _⟩
    · obtain ⟨k, K, V, hk, hK, hV, k0, km, K0, Kx, hlt, V0, V1, u0, u1, hE2⟩ := hE.step hy
      have hx0 := hE.x0; have hxm := hE.xm; have hy0 := hE.y0; have hym := hE.ym
      have f1 : x.tdiv y = k := by rw [Int.tdiv_eq_ediv_of_nonneg (by omega), hk]
      have f2 : IntKind.u64.wrap k = k := by rw [IntKind.wrap_u64]; omega
      have f3 : IntKind.u64.wrap K = K := by rw [IntKind.wrap_u64]; omega
      have f4 : IntKind.u64.wrap (x - K) = x - K := by rw [IntKind.wrap_u64]; omega
      have f5 : IntKind.i64.wrap k = k := IntWalk.i64_in _ (by omega)
      have f6 : IntKind.i64.wrap V = V := IntWalk.i64_in _ (by omega)
      have f7 : IntKind.i64.wrap (u - V) = u - V := IntWalk.i64_in _ (by omega)
      clear hE hk
      go_wp2_with fail
      go_roundw
      case rel => exact ⟨y, x - K, v, u - V, rfl, rfl, rfl, rfl, hE2, trivial⟩
      case measure => simp [intOf]; omega
theorem Inv_any (a y : Int) (w : World) (a0 : 0 ≤ a) (a1 : a < 18446744073709551616) (h : Gm.mul Gm.Q y a = 1) :
    Calls Tryz.prog 31 #[.int .u64 a] w fun e w' => (∃ z, e = .returned (.tuple #[.int .u64 z, .int .i64 0]) ∧ 0 ≤ z ∧ z < Gm.Q ∧ Gm.mul Gm.Q z a = 1) ∧ Below w.heap.size w w' := by
  have S := fun W => inverse_any modl_Q (by decide) a y W a0 a1 h
  clear h
  go_enter Tryz.func31, Tryz.ntmps31
  go_wp2_with fail
  refine (S _).mono ?_; rintro e w' ⟨⟨z, rfl, hz⟩, hb⟩
  go_wp2_with fail
  go_ret2
  exact ⟨⟨z, rfl, hz⟩, hb⟩
theorem InvR_any (a y : Int) (w : World) (a0 : 0 ≤ a) (a1 : a < 18446744073709551616) (h : Gm.mul Gm.R y a = 1) :
    Calls Tryz.prog 54 #[.int .u64 a] w fun e w' => (∃ z, e = .returned (.tuple #[.int .u64 z, .int .i64 0]) ∧ 0 ≤ z ∧ z < Gm.R ∧ Gm.mul Gm.R z a = 1) ∧ Below w.heap.size w w' := by
  have S := fun W => inverse_any modl_R (by decide) a y W a0 a1 h
  clear h
  go_enter Tryz.func54, Tryz.ntmps54
  go_wp2_with fail
  refine (S _).mono ?_; rintro e w' ⟨⟨z, rfl, hz⟩, hb⟩
  go_wp2_with fail
  go_ret2
  exact ⟨⟨z, rfl, hz⟩, hb⟩
end Go.Proofs.YtlaidjgdipacgaaGreatDoor
end
