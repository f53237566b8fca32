/-
  Walks over der.as[..] and the five that ask it. (Printed by wip/gen_as.py.)
-/
import Derived.Test.YtpmiihmhfagfoaaDoorEe
namespace Go.Proofs.YtpmiihmhfagfoaaDoor
open Go.RowKit

/-- What as tells. -/
def asE (x : Dm.It) (t : Int) : Int := if x.tag = t then (if Dm.may 8 x then 0 else 71) else 72
/-- What as hands back. -/
def AsGen (E : Int) (R : Value → World → Prop) (z : Value) (e : Ending) (w' : World) : Prop := ∃ v, e = .returned (.tuple #[v, .int .i64 E]) ∧ (if E = 0 then R v w' else v = z)
theorem asE_ne {x : Dm.It} {t : Int} (h : ¬ x.tag = t) : asE x t = 72 := if_neg h
theorem asE_may {x : Dm.It} {t : Int} (h : x.tag = t) : asE x t = if Dm.may 8 x then 0 else 71 := if_pos h
theorem may_b {x : Dm.It} (h : Dm.may 8 x = true) : Dm.mayB x.tag x.b = true := by
  cases x with
  | mk t b l =>
    unfold Dm.may at h
    simp only [Bool.and_eq_true] at h
    exact h.1.1.2
theorem least_len {b : List Int} (h : Dm.least b = true) : 1 ≤ b.length ∧ b.length ≤ 8 := by
  match b, h with
  | [_], _ => exact ⟨Nat.le_refl _, by simp⟩
  | x :: y :: r, h =>
    unfold Dm.least at h
    simp only [Bool.and_eq_true, decide_eq_true_eq] at h
    have := h.1
    simp; omega
/-- The number that bytes are. -/
def signI (x : Int) : Int := if x < 128 then x else x - 256
def foldI (n : Int) (r : List Int) : Int := r.foldl (fun n b => 256 * n + b) n
def numI : List Int → Int
  | [] => 0
  | x :: r => foldI (signI x) r
theorem foldI_take {n : Int} {r : List Int} {k : Nat} (hk : k < r.length) : foldI n (r.take (k + 1)) = 256 * foldI n (r.take k) + r[k]?.getD 0 := by
  unfold foldI
  rw [List.take_add_one, List.foldl_append, List.getElem?_eq_getElem hk]; rfl
theorem foldI_in : ∀ (r : List Int) (n : Int) (k : Nat), (∀ b ∈ r, byte b) → -(128 * 256 ^ k) ≤ n → n < 128 * 256 ^ k → -(128 * 256 ^ (k + r.length)) ≤ foldI n r ∧ foldI n r < 128 * 256 ^ (k + r.length)
  | [], n, k, _, h1, h2 => ⟨h1, h2⟩
  | b :: r, n, k, hb, h1, h2 => by
    have hb0 := hb b (by simp)
    unfold byte at hb0
    have e : (256 : Int) ^ (k + 1) = 256 * 256 ^ k := by rw [Int.pow_succ, Int.mul_comm]
    have := foldI_in r (256 * n + b) (k + 1) (fun z hz => hb z (by simp [hz])) (by rw [e]; omega) (by rw [e]; omega)
    rw [show k + 1 + r.length = k + (b :: r).length by simp; omega] at this
    exact this
theorem or_b8' (n b : Int) (h1 : -36028797018963968 ≤ n) (h2 : n < 36028797018963968) (hb : byte b) : bits .or .i64 (n * 256) b = n * 256 + b := by
  unfold byte at hb
  obtain ⟨q, hq⟩ : ∃ q : Nat, (n * 256) % 18446744073709551616 = 256 * (q : Int) := ⟨(n % 72057594037927936).toNat, by omega⟩
  have t1 : (BitVec.ofInt 64 (n * 256)).toNat = 2 ^ 8 * q := by
    rw [BitVec.toNat_ofInt, show ((2 ^ 64 : Nat) : Int) = 18446744073709551616 by decide, hq]; omega
  obtain ⟨c, rfl⟩ := Int.eq_ofNat_of_zero_le hb.1
  have t2 : (BitVec.ofInt 64 (c : Int)).toNat = c := by rw [BitVec.ofInt_natCast, BitVec.toNat_ofNat]; exact Nat.mod_eq_of_lt (by omega)
  show IntKind.i64.wrap ((BitVec.ofInt 64 (n * 256) ||| BitVec.ofInt 64 (c : Int)).toNat : Int) = _
  rw [BitVec.toNat_or, t1, t2, ← Nat.two_pow_add_eq_or_of_lt (show c < 2 ^ 8 by omega) q, IntKind.wrap_i64]
  omega
theorem i8_wrap (x : Int) (h : byte x) : IntKind.i8.wrap x = signI x := by
  unfold byte at h
  unfold signI
  simp only [IntKind.wrap, IntKind.bits, IntKind.signed]; simp; split <;> split <;> omega

set_option maxRecDepth 100000 in
set_option maxHeartbeats 1000000 in
theorem AsInt_in (x : Dm.It) (vb vl : Value) (w : World) (hp : ItP w vb vl x) (h1 : 1 ≤ x.b.length) (h8 : x.b.length ≤ 8) :
    Calls Tryd.prog 54 #[.agg #[.int .i64 x.tag, vb, vl]] w fun e w' => e = .returned (.int .i64 (numI x.b)) ∧ Below w.heap.size w w' := by
  obtain ⟨ab, cb, rfl⟩ := hp.2.1.shape x.b.length rfl
  obtain ⟨al, cl, rfl⟩ := hp.2.2.shape
  have hb0 := (Below.refl w.heap.size w).alloc (Nat.le_refl _) (.cells #[.int .i64 x.tag, .slice ab x.b.length cb, .slice al x.l.length cl] 25)
  have hr := hp.2.1
  obtain ⟨b, off, rfl, hlt, ct⟩ := hr.cellAt 0 (by omega)
  have hby := hr.all_byte
  cases hxb : x.b with
  | nil => rw [hxb] at h1; simp at h1
  | cons x0 r =>
    rw [hxb] at hr ct h1 h8 hby hb0
    simp only [List.getElem?_cons_zero, Option.getD_some, Nat.add_zero] at ct
    obtain ⟨T, hT⟩ : ∃ T, x.tag = T := ⟨_, rfl⟩
    obtain ⟨nl, hnl⟩ : ∃ n, x.l.length = n := ⟨_, rfl⟩
    rw [hT, hnl] at hb0 ⊢
    obtain ⟨L, hL⟩ : ∃ L, (x0 :: r).length = L := ⟨_, rfl⟩
    have hrl : r.length = L - 1 := by rw [← hL]; simp
    rw [hL] at hr h1 h8 hb0 ⊢
    have hLc : L ≤ cb := by obtain ⟨_, _, e', hc, _⟩ := hr; cases e'; rw [hL] at hc; exact hc
    have i8 := i8_wrap x0 (hby x0 (by simp))
    have hs : -128 ≤ signI x0 ∧ signI x0 < 128 := by have := hby x0 (by simp); unfold byte at this; unfold signI; split <;> omega
    have i64 : IntKind.i64.wrap (signI x0) = signI x0 := IntWalk.i64_in _ (by omega)
    obtain ⟨s, hsv⟩ : ∃ s, signI x0 = s := ⟨_, rfl⟩
    rw [hsv] at i8 hs i64
    have hnum : numI (x0 :: r) = foldI s r := by rw [← hsv]; rfl
    rw [hnum]
    have HR := Lib.hid hr; have HRL := Lib.hid hrl; have HB0 := Lib.hid hb0; have HBy := Lib.hid hby
    clear hr hb0 hnum hp hxb hT hnl hrl hby hL
    by_cases hc1 : cb = 1
    · obtain rfl : L = 1 := by omega
      have hr0 : r = [] := List.eq_nil_of_length_eq_zero (by have := HRL.out; omega)
      subst hr0
      subst hc1
      go_enter Tryd.func54, Tryd.ntmps54
      go_wp2_with fail
      go_loopw [3, 5, 16] (fun n _ i wr => n = .int .i64 s ∧ i = .int .i64 0 ∧ Below w.heap.size w wr) (fun _ _ _ _ => 0)
      case atStart => exact ⟨rfl, rfl, HB0.out⟩
      case round =>
        obtain ⟨rfl, rfl, hbw⟩ := hrel
        go_wp2_with fail
        go_ret
        exact ⟨rfl, hbw⟩
    have hc2 : 1 < cb := by omega
    have rc := Row.cut HR.out 1 (by simp) hc2
    rw [Option.map_some, addr_add, List.drop_one, List.tail_cons] at rc
    have rc2 := rc
    rw [← HRL.out] at rc2
    have HRC := Lib.hid rc2
    clear rc rc2
    go_enter Tryd.func54, Tryd.ntmps54
    go_wp2_with fail
    go_loopw [3, 5, 16] (fun n _ i wr => ∃ k : Nat, n = .int .i64 (foldI s (r.take k)) ∧ i = .int .i64 k ∧ k ≤ L - 1 ∧ Below w.heap.size w wr) (fun _ _ i _ => 10 - (intOf i).toNat)
    case atStart => exact ⟨0, rfl, rfl, Nat.zero_le _, HB0.out⟩
    case round =>
      obtain ⟨k, rfl, rfl, hk, hbw⟩ := hrel
      have k0 : (0 : Int) ≤ (k : Int) := by omega
      have e1 : IntKind.i64.wrap ((k : Int) + 1) = (k : Int) + 1 := IntWalk.i64_in _ (by omega)
      by_cases hlt2 : k < L - 1
      · have k1 : (k : Int) < ((L - 1 : Nat) : Int) := by omega
        have ft := foldI_take (n := s) (r := r) (k := k) (by rw [HRL.out]; exact hlt2)
        obtain ⟨b', o', e', hb', cx⟩ := (HRC.out.below hbw).cellAt k (by rw [HRL.out]; exact hlt2)
        cases e'
        have hyb : byte (r[k]?.getD 0) := by
          rw [List.getElem?_eq_getElem (by rw [HRL.out]; exact hlt2)]
          exact HBy.out _ (List.mem_cons_of_mem _ (List.getElem_mem _))
        have hin := foldI_in (r.take k) s 0 (fun z hz => HBy.out z (List.mem_cons_of_mem _ (List.mem_of_mem_take hz))) (by omega) (by omega)
        have hkl : (r.take k).length = k := by rw [List.length_take, HRL.out]; omega
        rw [hkl, Nat.zero_add] at hin
        obtain ⟨n, hn⟩ : ∃ n, foldI s (r.take k) = n := ⟨_, rfl⟩
        rw [hn] at ft hin ⊢
        obtain ⟨y, hy⟩ : ∃ y, r[k]?.getD 0 = y := ⟨_, rfl⟩
        rw [hy] at ft cx hyb
        have hp6 : (256 : Int) ^ k ≤ 281474976710656 := by
          have : k ≤ 6 := by omega
          match k, this with
          | 0, _ => decide
          | 1, _ => decide
          | 2, _ => decide
          | 3, _ => decide
          | 4, _ => decide
          | 5, _ => decide
          | 6, _ => decide
        have hn1 : -36028797018963968 ≤ n := by omega
        have hn2 : n < 36028797018963968 := by omega
        have hor := or_b8' n y hn1 hn2 hyb
        unfold byte at hyb
        have e2 : IntKind.i64.wrap (n * 256) = n * 256 := IntWalk.i64_in _ (by omega)
        have e3 : IntKind.i64.wrap y = y := IntWalk.i64_in _ (by omega)
        have hft : n * 256 + y = foldI s (r.take (k + 1)) := by rw [ft]; omega
        have HFT := Lib.hid hft
        clear hn hy hin hkl hft ft hp6
        go_wp2_with fail
        go_roundw
        case rel => exact ⟨k + 1, by rw [HFT.out], by go_num, by omega, hbw⟩
        case measure => simp [intOf]; omega
      · obtain rfl : k = L - 1 := by omega
        have htk : r.take (L - 1) = r := List.take_of_length_le (by rw [HRL.out]; exact Nat.le_refl _)
        rw [htk]
        clear htk
        go_wp2_with fail
        go_ret
        exact ⟨rfl, hbw⟩

set_option maxRecDepth 100000 in
theorem AsText_in (x : Dm.It) (vb vl : Value) (w : World) (hp : ItP w vb vl x) :
    Calls Tryd.prog 60 #[.agg #[.int .i64 x.tag, vb, vl]] w fun e w' => (e = .returned (.string (strOfNums x.b))) ∧ Below w.heap.size w w' := by
  obtain ⟨ab, cb, rfl⟩ := hp.2.1.shape x.b.length rfl
  obtain ⟨al, cl, rfl⟩ := hp.2.2.shape
  have hb0 := (Below.refl w.heap.size w).alloc (Nat.le_refl _) (.cells #[.int .i64 x.tag, .slice ab x.b.length cb, .slice al x.l.length cl] 25)
  have hp1 := hp.alloc (.cells #[.int .i64 x.tag, .slice ab x.b.length cb, .slice al x.l.length cl] 25)
  have kc := hp1.2.1.convert
  have HB0 := Lib.hid hb0
  clear hb0 hp hp1
  go_enter Tryd.func60, Tryd.ntmps60
  go_wp2_with fail
  go_ret
  exact ⟨rfl, HB0.out⟩

set_option maxRecDepth 100000 in
theorem AsOct_in (x : Dm.It) (vb vl : Value) (w : World) (hp : ItP w vb vl x) (hlen : x.b.length ≤ 10000000) :
    Calls Tryd.prog 62 #[.agg #[.int .i64 x.tag, vb, vl]] w fun e w' => (∃ r, e = .returned r ∧ OwnB w' w.heap.size r x.b) ∧ Below w.heap.size w w' := by
  obtain ⟨ab, cb, rfl⟩ := hp.2.1.shape x.b.length rfl
  obtain ⟨al, cl, rfl⟩ := hp.2.2.shape
  have hb0 := (Below.refl w.heap.size w).alloc (Nat.le_refl _) (.cells #[.int .i64 x.tag, .slice ab x.b.length cb, .slice al x.l.length cl] 25)
  have hp1 := hp.alloc (.cells #[.int .i64 x.tag, .slice ab x.b.length cb, .slice al x.l.length cl] 25)
  have hC := Clone8_any _ x.b _ hp1.2.1 hlen
  have HB0 := Lib.hid hb0
  clear hb0 hp hp1
  go_enter Tryd.func62, Tryd.ntmps62
  go_wp2_with fail
  refine hC.mono ?_; rintro e w4 ⟨r, rfl, own, hb4⟩
  clear hC
  go_wp2_with fail
  go_ret
  exact ⟨⟨_, rfl, owns_base own HB0.out.size⟩, HB0.out.trans (hb4.mono HB0.out.size)⟩

set_option maxRecDepth 100000 in
theorem AsBool_in (x : Dm.It) (vb vl : Value) (w : World) (hp : ItP w vb vl x) (hb : x.b = [0] ∨ x.b = [255]) :
    Calls Tryd.prog 64 #[.agg #[.int .i64 x.tag, vb, vl]] w fun e w' => (e = .returned (.bool (decide (x.b = [255])))) ∧ Below w.heap.size w w' := by
  obtain ⟨ab, cb, rfl⟩ := hp.2.1.shape x.b.length rfl
  obtain ⟨al, cl, rfl⟩ := hp.2.2.shape
  have hb0 := (Below.refl w.heap.size w).alloc (Nat.le_refl _) (.cells #[.int .i64 x.tag, .slice ab x.b.length cb, .slice al x.l.length cl] 25)
  have hp1 := hp.alloc (.cells #[.int .i64 x.tag, .slice ab x.b.length cb, .slice al x.l.length cl] 25)
  have hlen : x.b.length = 1 := by rcases hb with h | h <;> rw [h] <;> rfl
  obtain ⟨b, off, rfl, hlt, ct⟩ := hp1.2.1.cellAt 0 (by omega)
  rw [hlen] at ct hb0 ⊢
  have HB0 := Lib.hid hb0
  clear hb0 hp hp1 hlt
  rcases hb with h | h
  all_goals
    rw [h] at ct ⊢
    simp only [List.getElem?_cons_zero, Option.getD_some, Nat.add_zero] at ct
    go_enter Tryd.func64, Tryd.ntmps64
    go_wp2_with fail
    go_ret
    exact ⟨rfl, HB0.out⟩

set_option maxRecDepth 100000 in
theorem AsSeq_in (x : Dm.It) (vb vl : Value) (w : World) (hp : ItP w vb vl x) (hlen : x.l.length ≤ 1000000) :
    Calls Tryd.prog 57 #[.agg #[.int .i64 x.tag, vb, vl]] w fun e w' => (∃ r, e = .returned r ∧ ItsV w' r x.l) ∧ Below w.heap.size w w' := by
  obtain ⟨ab, cb, rfl⟩ := hp.2.1.shape x.b.length rfl
  obtain ⟨al, cl, rfl⟩ := hp.2.2.shape
  have hb0 := (Below.refl w.heap.size w).alloc (Nat.le_refl _) (.cells #[.int .i64 x.tag, .slice ab x.b.length cb, .slice al x.l.length cl] 25)
  have hp1 := hp.alloc (.cells #[.int .i64 x.tag, .slice ab x.b.length cb, .slice al x.l.length cl] 25)
  have hC := CloneI_any _ x.l _ hp1.2.2 hlen
  have HB0 := Lib.hid hb0
  clear hb0 hp hp1
  go_enter Tryd.func57, Tryd.ntmps57
  go_wp2_with fail
  refine hC.mono ?_; rintro e w4 ⟨⟨r, rfl, hi⟩, hb4⟩
  clear hC
  go_wp2_with fail
  go_ret
  exact ⟨⟨_, rfl, hi⟩, HB0.out.trans (hb4.mono HB0.out.size)⟩

set_option maxRecDepth 100000 in
set_option maxHeartbeats 1000000 in
theorem asInt_of (x : Dm.It) (vb vl : Value) (t : Int) (w : World) (hk : KindsAt w) (hp : ItP w vb vl x) (hw : Dm.wt x ≤ 100000000000) (R : Value → World → Prop)
    (hG : x.tag = t → Dm.may 8 x = true → ∀ W, Below w.heap.size w W → Calls Tryd.prog 54 #[.agg #[.int .i64 x.tag, vb, vl]] W fun e w' => (∃ v, e = .returned v ∧ R v w') ∧ Below W.heap.size W w') :
    Calls Tryd.prog 53 #[.agg #[.int .i64 x.tag, vb, vl], .int .i64 t, .func (.func 54) #[] #[]] w fun e w' => AsGen (asE x t) R (.int .i64 0) e w' ∧ Below w.heap.size w w' := by
  obtain ⟨ab, cb, rfl⟩ := hp.2.1.shape x.b.length rfl
  obtain ⟨al, cl, rfl⟩ := hp.2.2.shape
  have hb0 := (Below.refl w.heap.size w).alloc (Nat.le_refl _) (.cells #[.int .i64 x.tag, .slice ab x.b.length cb, .slice al x.l.length cl] 25)
  have q0 := Trip.new w 25 (.int .i64 x.tag) (.slice ab x.b.length cb) (.slice al x.l.length cl)
  have hC := may_any _ x _ _ 8 _ (Nat.le_refl _) hw (by decide) (hk.alloc (.cells #[.int .i64 x.tag, .slice ab x.b.length cb, .slice al x.l.length cl] 25)) (hp.alloc (.cells #[.int .i64 x.tag, .slice ab x.b.length cb, .slice al x.l.length cl] 25))
  have hE1 := asE_ne (x := x) (t := t)
  have hE2 := asE_may (x := x) (t := t)
  obtain ⟨E, hE⟩ : ∃ E, asE x t = E := ⟨_, rfl⟩
  obtain ⟨T, hT⟩ : ∃ T, x.tag = T := ⟨_, rfl⟩
  obtain ⟨nb, hnb⟩ : ∃ n, x.b.length = n := ⟨_, rfl⟩
  obtain ⟨nl, hnl⟩ : ∃ n, x.l.length = n := ⟨_, rfl⟩
  rw [hT, hnb, hnl] at hb0 q0 hC
  rw [hT, hnb, hnl] at hG
  rw [hT] at hE1 hE2
  rw [hE] at hE1 hE2
  rw [hT, hnb, hnl, hE]
  have HG := Lib.hid hG; have HB0 := Lib.hid hb0; have HE1 := Lib.hid hE1; have HE2 := Lib.hid hE2; have Q0 := Lib.hid q0
  clear hE hT hnb hnl hp hk hG hb0 hE1 hE2 q0
  by_cases ht : T = t
  case neg =>
    clear hC
    go_enter Tryd.func53, Tryd.ntmps53
    go_wp2_with fail
    go_ret2
    rw [HE1.out ht]
    exact ⟨⟨_, rfl, rfl⟩, HB0.out⟩
  subst ht
  obtain ⟨M, hM⟩ : ∃ M, Dm.may 8 x = M := ⟨_, rfl⟩
  rw [hM] at hC
  have hE := HE2.out rfl
  rw [hM] at hE
  have HEE := Lib.hid hE
  clear hE
  have HM := Lib.hid hM
  clear hM
  cases M with
  | false =>
    go_enter Tryd.func53, Tryd.ntmps53
    go_wp2_with fail
    refine hC.mono ?_; rintro e w1 ⟨rfl, hb1⟩
    clear hC
    have hB1 := HB0.out.trans (hb1.mono HB0.out.size)
    go_wp2_with fail
    go_ret2
    rw [show E = 71 from HEE.out]
    exact ⟨⟨_, rfl, rfl⟩, hB1⟩
  | true =>
    go_enter Tryd.func53, Tryd.ntmps53
    go_wp2_with fail
    refine hC.mono ?_; rintro e w1 ⟨rfl, hb1⟩
    clear hC
    have hB1 := HB0.out.trans (hb1.mono HB0.out.size)
    have q1 := trip_stp Q0.out hb1
    have c0 := q1.cell0; have c1 := q1.cell1; have c2 := q1.cell2
    have hC2 := HG.out (by first | trivial | rfl) HM.out w1 hB1
    clear q1 hb1
    go_wp2_with fail
    refine hC2.mono ?_; rintro e w2 ⟨⟨v, rfl, hR⟩, hb2⟩
    clear hC2
    go_wp2_with fail
    go_ret2
    rw [show E = 0 from HEE.out]
    exact ⟨⟨_, rfl, hR⟩, hB1.trans (hb2.mono hB1.size)⟩

set_option maxRecDepth 100000 in
theorem AsInt_any (x : Dm.It) (vb vl : Value) (w : World) (hk : KindsAt w) (hp : ItP w vb vl x) (hw : Dm.wt x ≤ 100000000000) :
    Calls Tryd.prog 21 #[.agg #[.int .i64 x.tag, vb, vl]] w fun e w' => AsGen (asE x 2) (fun v _ => v = .int .i64 (numI x.b)) (.int .i64 0) e w' ∧ Below w.heap.size w w' := by
  obtain ⟨ab, cb, rfl⟩ := hp.2.1.shape x.b.length rfl
  obtain ⟨al, cl, rfl⟩ := hp.2.2.shape
  have hb0 := (Below.refl w.heap.size w).alloc (Nat.le_refl _) (.cells #[.int .i64 x.tag, .slice ab x.b.length cb, .slice al x.l.length cl] 25)
  have hp1 := hp.alloc (.cells #[.int .i64 x.tag, .slice ab x.b.length cb, .slice al x.l.length cl] 25)
  have hC := asInt_of x _ _ 2 _ (hk.alloc (.cells #[.int .i64 x.tag, .slice ab x.b.length cb, .slice al x.l.length cl] 25)) hp1 hw (fun v _ => v = .int .i64 (numI x.b))
    (fun ht hm W hW => (AsInt_in x _ _ W (hp1.below hW) (least_len (by have := may_b hm; rw [ht] at this; exact this)).1 (least_len (by have := may_b hm; rw [ht] at this; exact this)).2).mono fun e w' ⟨h, hb⟩ => ⟨⟨_, h, rfl⟩, hb⟩)
  have HB0 := Lib.hid hb0
  clear hb0 hp hp1 hk
  go_enter Tryd.func21, Tryd.ntmps21
  go_wp2_with fail
  refine hC.mono ?_; rintro e w1 ⟨⟨v, rfl, hR⟩, hb1⟩
  clear hC
  have HR := Lib.hid hR
  clear hR
  go_wp2_with fail
  go_ret2
  exact ⟨⟨v, rfl, HR.out⟩, HB0.out.trans (hb1.mono HB0.out.size)⟩

set_option maxRecDepth 100000 in
set_option maxHeartbeats 1000000 in
theorem asText_of (x : Dm.It) (vb vl : Value) (t : Int) (w : World) (hk : KindsAt w) (hp : ItP w vb vl x) (hw : Dm.wt x ≤ 100000000000) (R : Value → World → Prop)
    (hG : x.tag = t → Dm.may 8 x = true → ∀ W, Below w.heap.size w W → Calls Tryd.prog 60 #[.agg #[.int .i64 x.tag, vb, vl]] W fun e w' => (∃ v, e = .returned v ∧ R v w') ∧ Below W.heap.size W w') :
    Calls Tryd.prog 59 #[.agg #[.int .i64 x.tag, vb, vl], .int .i64 t, .func (.func 60) #[] #[]] w fun e w' => AsGen (asE x t) R (.string ByteArray.empty) e w' ∧ Below w.heap.size w w' := by
  obtain ⟨ab, cb, rfl⟩ := hp.2.1.shape x.b.length rfl
  obtain ⟨al, cl, rfl⟩ := hp.2.2.shape
  have hb0 := (Below.refl w.heap.size w).alloc (Nat.le_refl _) (.cells #[.int .i64 x.tag, .slice ab x.b.length cb, .slice al x.l.length cl] 25)
  have q0 := Trip.new w 25 (.int .i64 x.tag) (.slice ab x.b.length cb) (.slice al x.l.length cl)
  have hC := may_any _ x _ _ 8 _ (Nat.le_refl _) hw (by decide) (hk.alloc (.cells #[.int .i64 x.tag, .slice ab x.b.length cb, .slice al x.l.length cl] 25)) (hp.alloc (.cells #[.int .i64 x.tag, .slice ab x.b.length cb, .slice al x.l.length cl] 25))
  have hE1 := asE_ne (x := x) (t := t)
  have hE2 := asE_may (x := x) (t := t)
  obtain ⟨E, hE⟩ : ∃ E, asE x t = E := ⟨_, rfl⟩
  obtain ⟨T, hT⟩ : ∃ T, x.tag = T := ⟨_, rfl⟩
  obtain ⟨nb, hnb⟩ : ∃ n, x.b.length = n := ⟨_, rfl⟩
  obtain ⟨nl, hnl⟩ : ∃ n, x.l.length = n := ⟨_, rfl⟩
  rw [hT, hnb, hnl] at hb0 q0 hC
  rw [hT, hnb, hnl] at hG
  rw [hT] at hE1 hE2
  rw [hE] at hE1 hE2
  rw [hT, hnb, hnl, hE]
  have HG := Lib.hid hG; have HB0 := Lib.hid hb0; have HE1 := Lib.hid hE1; have HE2 := Lib.hid hE2; have Q0 := Lib.hid q0
  clear hE hT hnb hnl hp hk hG hb0 hE1 hE2 q0
  by_cases ht : T = t
  case neg =>
    clear hC
    go_enter Tryd.func59, Tryd.ntmps59
    go_wp2_with fail
    go_ret2
    rw [HE1.out ht]
    exact ⟨⟨_, rfl, rfl⟩, HB0.out⟩
  subst ht
  obtain ⟨M, hM⟩ : ∃ M, Dm.may 8 x = M := ⟨_, rfl⟩
  rw [hM] at hC
  have hE := HE2.out rfl
  rw [hM] at hE
  have HEE := Lib.hid hE
  clear hE
  have HM := Lib.hid hM
  clear hM
  cases M with
  | false =>
    go_enter Tryd.func59, Tryd.ntmps59
    go_wp2_with fail
    refine hC.mono ?_; rintro e w1 ⟨rfl, hb1⟩
    clear hC
    have hB1 := HB0.out.trans (hb1.mono HB0.out.size)
    go_wp2_with fail
    go_ret2
    rw [show E = 71 from HEE.out]
    exact ⟨⟨_, rfl, rfl⟩, hB1⟩
  | true =>
    go_enter Tryd.func59, Tryd.ntmps59
    go_wp2_with fail
    refine hC.mono ?_; rintro e w1 ⟨rfl, hb1⟩
    clear hC
    have hB1 := HB0.out.trans (hb1.mono HB0.out.size)
    have q1 := trip_stp Q0.out hb1
    have c0 := q1.cell0; have c1 := q1.cell1; have c2 := q1.cell2
    have hC2 := HG.out (by first | trivial | rfl) HM.out w1 hB1
    clear q1 hb1
    go_wp2_with fail
    refine hC2.mono ?_; rintro e w2 ⟨⟨v, rfl, hR⟩, hb2⟩
    clear hC2
    go_wp2_with fail
    go_ret2
    rw [show E = 0 from HEE.out]
    exact ⟨⟨_, rfl, hR⟩, hB1.trans (hb2.mono hB1.size)⟩

set_option maxRecDepth 100000 in
theorem AsText_any (x : Dm.It) (vb vl : Value) (w : World) (hk : KindsAt w) (hp : ItP w vb vl x) (hw : Dm.wt x ≤ 100000000000) :
    Calls Tryd.prog 27 #[.agg #[.int .i64 x.tag, vb, vl]] w fun e w' => AsGen (asE x 12) (fun v _ => v = .string (strOfNums x.b)) (.string ByteArray.empty) e w' ∧ Below w.heap.size w w' := by
  obtain ⟨ab, cb, rfl⟩ := hp.2.1.shape x.b.length rfl
  obtain ⟨al, cl, rfl⟩ := hp.2.2.shape
  have hb0 := (Below.refl w.heap.size w).alloc (Nat.le_refl _) (.cells #[.int .i64 x.tag, .slice ab x.b.length cb, .slice al x.l.length cl] 25)
  have hp1 := hp.alloc (.cells #[.int .i64 x.tag, .slice ab x.b.length cb, .slice al x.l.length cl] 25)
  have hC := asText_of x _ _ 12 _ (hk.alloc (.cells #[.int .i64 x.tag, .slice ab x.b.length cb, .slice al x.l.length cl] 25)) hp1 hw (fun v _ => v = .string (strOfNums x.b))
    (fun ht hm W hW => (AsText_in x _ _ W (hp1.below hW)).mono fun e w' ⟨h, hb⟩ => ⟨⟨_, h, rfl⟩, hb⟩)
  have HB0 := Lib.hid hb0
  clear hb0 hp hp1 hk
  go_enter Tryd.func27, Tryd.ntmps27
  go_wp2_with fail
  refine hC.mono ?_; rintro e w1 ⟨⟨v, rfl, hR⟩, hb1⟩
  clear hC
  have HR := Lib.hid hR
  clear hR
  go_wp2_with fail
  go_ret2
  exact ⟨⟨v, rfl, HR.out⟩, HB0.out.trans (hb1.mono HB0.out.size)⟩

set_option maxRecDepth 100000 in
set_option maxHeartbeats 1000000 in
theorem asOct_of (x : Dm.It) (vb vl : Value) (t : Int) (w : World) (hk : KindsAt w) (hp : ItP w vb vl x) (hw : Dm.wt x ≤ 100000000000) (R : Value → World → Prop)
    (hG : x.tag = t → Dm.may 8 x = true → ∀ W, Below w.heap.size w W → Calls Tryd.prog 62 #[.agg #[.int .i64 x.tag, vb, vl]] W fun e w' => (∃ v, e = .returned v ∧ R v w') ∧ Below W.heap.size W w') :
    Calls Tryd.prog 61 #[.agg #[.int .i64 x.tag, vb, vl], .int .i64 t, .func (.func 62) #[] #[]] w fun e w' => AsGen (asE x t) R (.slice none 0 0) e w' ∧ Below w.heap.size w w' := by
  obtain ⟨ab, cb, rfl⟩ := hp.2.1.shape x.b.length rfl
  obtain ⟨al, cl, rfl⟩ := hp.2.2.shape
  have hb0 := (Below.refl w.heap.size w).alloc (Nat.le_refl _) (.cells #[.int .i64 x.tag, .slice ab x.b.length cb, .slice al x.l.length cl] 25)
  have q0 := Trip.new w 25 (.int .i64 x.tag) (.slice ab x.b.length cb) (.slice al x.l.length cl)
  have hC := may_any _ x _ _ 8 _ (Nat.le_refl _) hw (by decide) (hk.alloc (.cells #[.int .i64 x.tag, .slice ab x.b.length cb, .slice al x.l.length cl] 25)) (hp.alloc (.cells #[.int .i64 x.tag, .slice ab x.b.length cb, .slice al x.l.length cl] 25))
  have hE1 := asE_ne (x := x) (t := t)
  have hE2 := asE_may (x := x) (t := t)
  obtain ⟨E, hE⟩ : ∃ E, asE x t = E := ⟨_, rfl⟩
  obtain ⟨T, hT⟩ : ∃ T, x.tag = T := ⟨_, rfl⟩
  obtain ⟨nb, hnb⟩ : ∃ n, x.b.length = n := ⟨_, rfl⟩
  obtain ⟨nl, hnl⟩ : ∃ n, x.l.length = n := ⟨_, rfl⟩
  rw [hT, hnb, hnl] at hb0 q0 hC
  rw [hT, hnb, hnl] at hG
  rw [hT] at hE1 hE2
  rw [hE] at hE1 hE2
  rw [hT, hnb, hnl, hE]
  have HG := Lib.hid hG; have HB0 := Lib.hid hb0; have HE1 := Lib.hid hE1; have HE2 := Lib.hid hE2; have Q0 := Lib.hid q0
  clear hE hT hnb hnl hp hk hG hb0 hE1 hE2 q0
  by_cases ht : T = t
  case neg =>
    clear hC
    go_enter Tryd.func61, Tryd.ntmps61
    go_wp2_with fail
    go_ret2
    rw [HE1.out ht]
    exact ⟨⟨_, rfl, rfl⟩, HB0.out⟩
  subst ht
  obtain ⟨M, hM⟩ : ∃ M, Dm.may 8 x = M := ⟨_, rfl⟩
  rw [hM] at hC
  have hE := HE2.out rfl
  rw [hM] at hE
  have HEE := Lib.hid hE
  clear hE
  have HM := Lib.hid hM
  clear hM
  cases M with
  | false =>
    go_enter Tryd.func61, Tryd.ntmps61
    go_wp2_with fail
    refine hC.mono ?_; rintro e w1 ⟨rfl, hb1⟩
    clear hC
    have hB1 := HB0.out.trans (hb1.mono HB0.out.size)
    go_wp2_with fail
    go_ret2
    rw [show E = 71 from HEE.out]
    exact ⟨⟨_, rfl, rfl⟩, hB1⟩
  | true =>
    go_enter Tryd.func61, Tryd.ntmps61
    go_wp2_with fail
    refine hC.mono ?_; rintro e w1 ⟨rfl, hb1⟩
    clear hC
    have hB1 := HB0.out.trans (hb1.mono HB0.out.size)
    have q1 := trip_stp Q0.out hb1
    have c0 := q1.cell0; have c1 := q1.cell1; have c2 := q1.cell2
    have hC2 := HG.out (by first | trivial | rfl) HM.out w1 hB1
    clear q1 hb1
    go_wp2_with fail
    refine hC2.mono ?_; rintro e w2 ⟨⟨v, rfl, hR⟩, hb2⟩
    clear hC2
    go_wp2_with fail
    go_ret2
    rw [show E = 0 from HEE.out]
    exact ⟨⟨_, rfl, hR⟩, hB1.trans (hb2.mono hB1.size)⟩

set_option maxRecDepth 100000 in
theorem AsOct_any (x : Dm.It) (vb vl : Value) (w : World) (hk : KindsAt w) (hp : ItP w vb vl x) (hw : Dm.wt x ≤ 100000000000) (hlen : x.b.length ≤ 10000000) :
    Calls Tryd.prog 29 #[.agg #[.int .i64 x.tag, vb, vl]] w fun e w' => AsGen (asE x 4) (fun v w' => OwnB w' w.heap.size v x.b) (.slice none 0 0) e w' ∧ Below w.heap.size w w' := by
  obtain ⟨ab, cb, rfl⟩ := hp.2.1.shape x.b.length rfl
  obtain ⟨al, cl, rfl⟩ := hp.2.2.shape
  have hb0 := (Below.refl w.heap.size w).alloc (Nat.le_refl _) (.cells #[.int .i64 x.tag, .slice ab x.b.length cb, .slice al x.l.length cl] 25)
  have hp1 := hp.alloc (.cells #[.int .i64 x.tag, .slice ab x.b.length cb, .slice al x.l.length cl] 25)
  have hC := asOct_of x _ _ 4 _ (hk.alloc (.cells #[.int .i64 x.tag, .slice ab x.b.length cb, .slice al x.l.length cl] 25)) hp1 hw (fun v w' => OwnB w' w.heap.size v x.b)
    (fun ht hm W hW => (AsOct_in x _ _ W (hp1.below hW) hlen).mono fun e w' ⟨⟨r, h, own⟩, hb⟩ => ⟨⟨r, h, owns_base own (Nat.le_trans (by simp) hW.size)⟩, hb⟩)
  have HB0 := Lib.hid hb0
  clear hb0 hp hp1 hk
  go_enter Tryd.func29, Tryd.ntmps29
  go_wp2_with fail
  refine hC.mono ?_; rintro e w1 ⟨⟨v, rfl, hR⟩, hb1⟩
  clear hC
  have HR := Lib.hid hR
  clear hR
  go_wp2_with fail
  go_ret2
  exact ⟨⟨v, rfl, HR.out⟩, HB0.out.trans (hb1.mono HB0.out.size)⟩

set_option maxRecDepth 100000 in
set_option maxHeartbeats 1000000 in
theorem asBool_of (x : Dm.It) (vb vl : Value) (t : Int) (w : World) (hk : KindsAt w) (hp : ItP w vb vl x) (hw : Dm.wt x ≤ 100000000000) (R : Value → World → Prop)
    (hG : x.tag = t → Dm.may 8 x = true → ∀ W, Below w.heap.size w W → Calls Tryd.prog 64 #[.agg #[.int .i64 x.tag, vb, vl]] W fun e w' => (∃ v, e = .returned v ∧ R v w') ∧ Below W.heap.size W w') :
    Calls Tryd.prog 63 #[.agg #[.int .i64 x.tag, vb, vl], .int .i64 t, .func (.func 64) #[] #[]] w fun e w' => AsGen (asE x t) R (.bool false) e w' ∧ Below w.heap.size w w' := by
  obtain ⟨ab, cb, rfl⟩ := hp.2.1.shape x.b.length rfl
  obtain ⟨al, cl, rfl⟩ := hp.2.2.shape
  have hb0 := (Below.refl w.heap.size w).alloc (Nat.le_refl _) (.cells #[.int .i64 x.tag, .slice ab x.b.length cb, .slice al x.l.length cl] 25)
  have q0 := Trip.new w 25 (.int .i64 x.tag) (.slice ab x.b.length cb) (.slice al x.l.length cl)
  have hC := may_any _ x _ _ 8 _ (Nat.le_refl _) hw (by decide) (hk.alloc (.cells #[.int .i64 x.tag, .slice ab x.b.length cb, .slice al x.l.length cl] 25)) (hp.alloc (.cells #[.int .i64 x.tag, .slice ab x.b.length cb, .slice al x.l.length cl] 25))
  have hE1 := asE_ne (x := x) (t := t)
  have hE2 := asE_may (x := x) (t := t)
  obtain ⟨E, hE⟩ : ∃ E, asE x t = E := ⟨_, rfl⟩
  obtain ⟨T, hT⟩ : ∃ T, x.tag = T := ⟨_, rfl⟩
  obtain ⟨nb, hnb⟩ : ∃ n, x.b.length = n := ⟨_, rfl⟩
  obtain ⟨nl, hnl⟩ : ∃ n, x.l.length = n := ⟨_, rfl⟩
  rw [hT, hnb, hnl] at hb0 q0 hC
  rw [hT, hnb, hnl] at hG
  rw [hT] at hE1 hE2
  rw [hE] at hE1 hE2
  rw [hT, hnb, hnl, hE]
  have HG := Lib.hid hG; have HB0 := Lib.hid hb0; have HE1 := Lib.hid hE1; have HE2 := Lib.hid hE2; have Q0 := Lib.hid q0
  clear hE hT hnb hnl hp hk hG hb0 hE1 hE2 q0
  by_cases ht : T = t
  case neg =>
    clear hC
    go_enter Tryd.func63, Tryd.ntmps63
    go_wp2_with fail
    go_ret2
    rw [HE1.out ht]
    exact ⟨⟨_, rfl, rfl⟩, HB0.out⟩
  subst ht
  obtain ⟨M, hM⟩ : ∃ M, Dm.may 8 x = M := ⟨_, rfl⟩
  rw [hM] at hC
  have hE := HE2.out rfl
  rw [hM] at hE
  have HEE := Lib.hid hE
  clear hE
  have HM := Lib.hid hM
  clear hM
  cases M with
  | false =>
    go_enter Tryd.func63, Tryd.ntmps63
    go_wp2_with fail
    refine hC.mono ?_; rintro e w1 ⟨rfl, hb1⟩
    clear hC
    have hB1 := HB0.out.trans (hb1.mono HB0.out.size)
    go_wp2_with fail
    go_ret2
    rw [show E = 71 from HEE.out]
    exact ⟨⟨_, rfl, rfl⟩, hB1⟩
  | true =>
    go_enter Tryd.func63, Tryd.ntmps63
    go_wp2_with fail
    refine hC.mono ?_; rintro e w1 ⟨rfl, hb1⟩
    clear hC
    have hB1 := HB0.out.trans (hb1.mono HB0.out.size)
    have q1 := trip_stp Q0.out hb1
    have c0 := q1.cell0; have c1 := q1.cell1; have c2 := q1.cell2
    have hC2 := HG.out (by first | trivial | rfl) HM.out w1 hB1
    clear q1 hb1
    go_wp2_with fail
    refine hC2.mono ?_; rintro e w2 ⟨⟨v, rfl, hR⟩, hb2⟩
    clear hC2
    go_wp2_with fail
    go_ret2
    rw [show E = 0 from HEE.out]
    exact ⟨⟨_, rfl, hR⟩, hB1.trans (hb2.mono hB1.size)⟩

set_option maxRecDepth 100000 in
theorem AsBool_any (x : Dm.It) (vb vl : Value) (w : World) (hk : KindsAt w) (hp : ItP w vb vl x) (hw : Dm.wt x ≤ 100000000000) :
    Calls Tryd.prog 31 #[.agg #[.int .i64 x.tag, vb, vl]] w fun e w' => AsGen (asE x 1) (fun v _ => v = .bool (decide (x.b = [255]))) (.bool false) e w' ∧ Below w.heap.size w w' := by
  obtain ⟨ab, cb, rfl⟩ := hp.2.1.shape x.b.length rfl
  obtain ⟨al, cl, rfl⟩ := hp.2.2.shape
  have hb0 := (Below.refl w.heap.size w).alloc (Nat.le_refl _) (.cells #[.int .i64 x.tag, .slice ab x.b.length cb, .slice al x.l.length cl] 25)
  have hp1 := hp.alloc (.cells #[.int .i64 x.tag, .slice ab x.b.length cb, .slice al x.l.length cl] 25)
  have hC := asBool_of x _ _ 1 _ (hk.alloc (.cells #[.int .i64 x.tag, .slice ab x.b.length cb, .slice al x.l.length cl] 25)) hp1 hw (fun v _ => v = .bool (decide (x.b = [255])))
    (fun ht hm W hW => (AsBool_in x _ _ W (hp1.below hW) (by have := may_b hm; rw [ht] at this; simpa [Dm.mayB] using this)).mono fun e w' ⟨h, hb⟩ => ⟨⟨_, h, rfl⟩, hb⟩)
  have HB0 := Lib.hid hb0
  clear hb0 hp hp1 hk
  go_enter Tryd.func31, Tryd.ntmps31
  go_wp2_with fail
  refine hC.mono ?_; rintro e w1 ⟨⟨v, rfl, hR⟩, hb1⟩
  clear hC
  have HR := Lib.hid hR
  clear hR
  go_wp2_with fail
  go_ret2
  exact ⟨⟨v, rfl, HR.out⟩, HB0.out.trans (hb1.mono HB0.out.size)⟩

set_option maxRecDepth 100000 in
set_option maxHeartbeats 1000000 in
theorem asSeq_of (x : Dm.It) (vb vl : Value) (t : Int) (w : World) (hk : KindsAt w) (hp : ItP w vb vl x) (hw : Dm.wt x ≤ 100000000000) (R : Value → World → Prop)
    (hG : x.tag = t → Dm.may 8 x = true → ∀ W, Below w.heap.size w W → Calls Tryd.prog 57 #[.agg #[.int .i64 x.tag, vb, vl]] W fun e w' => (∃ v, e = .returned v ∧ R v w') ∧ Below W.heap.size W w') :
    Calls Tryd.prog 56 #[.agg #[.int .i64 x.tag, vb, vl], .int .i64 t, .func (.func 57) #[] #[]] w fun e w' => AsGen (asE x t) R (.slice none 0 0) e w' ∧ Below w.heap.size w w' := by
  obtain ⟨ab, cb, rfl⟩ := hp.2.1.shape x.b.length rfl
  obtain ⟨al, cl, rfl⟩ := hp.2.2.shape
  have hb0 := (Below.refl w.heap.size w).alloc (Nat.le_refl _) (.cells #[.int .i64 x.tag, .slice ab x.b.length cb, .slice al x.l.length cl] 25)
  have q0 := Trip.new w 25 (.int .i64 x.tag) (.slice ab x.b.length cb) (.slice al x.l.length cl)
  have hC := may_any _ x _ _ 8 _ (Nat.le_refl _) hw (by decide) (hk.alloc (.cells #[.int .i64 x.tag, .slice ab x.b.length cb, .slice al x.l.length cl] 25)) (hp.alloc (.cells #[.int .i64 x.tag, .slice ab x.b.length cb, .slice al x.l.length cl] 25))
  have hE1 := asE_ne (x := x) (t := t)
  have hE2 := asE_may (x := x) (t := t)
  obtain ⟨E, hE⟩ : ∃ E, asE x t = E := ⟨_, rfl⟩
  obtain ⟨T, hT⟩ : ∃ T, x.tag = T := ⟨_, rfl⟩
  obtain ⟨nb, hnb⟩ : ∃ n, x.b.length = n := ⟨_, rfl⟩
  obtain ⟨nl, hnl⟩ : ∃ n, x.l.length = n := ⟨_, rfl⟩
  rw [hT, hnb, hnl] at hb0 q0 hC
  rw [hT, hnb, hnl] at hG
  rw [hT] at hE1 hE2
  rw [hE] at hE1 hE2
  rw [hT, hnb, hnl, hE]
  have HG := Lib.hid hG; have HB0 := Lib.hid hb0; have HE1 := Lib.hid hE1; have HE2 := Lib.hid hE2; have Q0 := Lib.hid q0
  clear hE hT hnb hnl hp hk hG hb0 hE1 hE2 q0
  by_cases ht : T = t
  case neg =>
    clear hC
    go_enter Tryd.func56, Tryd.ntmps56
    go_wp2_with fail
    go_ret2
    rw [HE1.out ht]
    exact ⟨⟨_, rfl, rfl⟩, HB0.out⟩
  subst ht
  obtain ⟨M, hM⟩ : ∃ M, Dm.may 8 x = M := ⟨_, rfl⟩
  rw [hM] at hC
  have hE := HE2.out rfl
  rw [hM] at hE
  have HEE := Lib.hid hE
  clear hE
  have HM := Lib.hid hM
  clear hM
  cases M with
  | false =>
    go_enter Tryd.func56, Tryd.ntmps56
    go_wp2_with fail
    refine hC.mono ?_; rintro e w1 ⟨rfl, hb1⟩
    clear hC
    have hB1 := HB0.out.trans (hb1.mono HB0.out.size)
    go_wp2_with fail
    go_ret2
    rw [show E = 71 from HEE.out]
    exact ⟨⟨_, rfl, rfl⟩, hB1⟩
  | true =>
    go_enter Tryd.func56, Tryd.ntmps56
    go_wp2_with fail
    refine hC.mono ?_; rintro e w1 ⟨rfl, hb1⟩
    clear hC
    have hB1 := HB0.out.trans (hb1.mono HB0.out.size)
    have q1 := trip_stp Q0.out hb1
    have c0 := q1.cell0; have c1 := q1.cell1; have c2 := q1.cell2
    have hC2 := HG.out (by first | trivial | rfl) HM.out w1 hB1
    clear q1 hb1
    go_wp2_with fail
    refine hC2.mono ?_; rintro e w2 ⟨⟨v, rfl, hR⟩, hb2⟩
    clear hC2
    go_wp2_with fail
    go_ret2
    rw [show E = 0 from HEE.out]
    exact ⟨⟨_, rfl, hR⟩, hB1.trans (hb2.mono hB1.size)⟩

set_option maxRecDepth 100000 in
theorem AsSeq_any (x : Dm.It) (vb vl : Value) (w : World) (hk : KindsAt w) (hp : ItP w vb vl x) (hw : Dm.wt x ≤ 100000000000) (hlen : x.l.length ≤ 1000000) :
    Calls Tryd.prog 25 #[.agg #[.int .i64 x.tag, vb, vl]] w fun e w' => AsGen (asE x 48) (fun v w' => ItsV w' v x.l) (.slice none 0 0) e w' ∧ Below w.heap.size w w' := by
  obtain ⟨ab, cb, rfl⟩ := hp.2.1.shape x.b.length rfl
  obtain ⟨al, cl, rfl⟩ := hp.2.2.shape
  have hb0 := (Below.refl w.heap.size w).alloc (Nat.le_refl _) (.cells #[.int .i64 x.tag, .slice ab x.b.length cb, .slice al x.l.length cl] 25)
  have hp1 := hp.alloc (.cells #[.int .i64 x.tag, .slice ab x.b.length cb, .slice al x.l.length cl] 25)
  have hC := asSeq_of x _ _ 48 _ (hk.alloc (.cells #[.int .i64 x.tag, .slice ab x.b.length cb, .slice al x.l.length cl] 25)) hp1 hw (fun v w' => ItsV w' v x.l)
    (fun ht hm W hW => (AsSeq_in x _ _ W (hp1.below hW) hlen).mono fun e w' ⟨⟨r, h, hi⟩, hb⟩ => ⟨⟨r, h, hi⟩, hb⟩)
  have HB0 := Lib.hid hb0
  clear hb0 hp hp1 hk
  go_enter Tryd.func25, Tryd.ntmps25
  go_wp2_with fail
  refine hC.mono ?_; rintro e w1 ⟨⟨v, rfl, hR⟩, hb1⟩
  clear hC
  have HR := Lib.hid hR
  clear hR
  go_wp2_with fail
  go_ret2
  exact ⟨⟨v, rfl, HR.out⟩, HB0.out.trans (hb1.mono HB0.out.size)⟩
end Go.Proofs.YtpmiihmhfagfoaaDoor
