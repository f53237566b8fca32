/-
  The iterator sieve.places: its contract.
-/
import Derived.Test.YtconpdliadhahaaSa
import Derived.Test.YtconpdliadhahaaKb
import Derived.Stop.RegionWithIn
import Derived.WalkMore
import Derived.Sort.QuietTacIn
import Derived.Sort.BigQuietIn
import Derived.Deep.RegionHeld3
namespace Go.Proofs.Ytconpdliadhahaa
open Go.RowKit Go.Shelf
attribute [local go_sem] Oper.semAt_some

/-- A place among bits. -/
abbrev Pc (bits' : Int) := { q : Nat // (q : Int) < bits' }
def pcEnc (bits' : Int) (x : Pc bits') : Array Value := #[.int .i64 (x.1 / 8 : Nat), .int .u8 (2 ^ (x.1 % 8) : Nat)]

/-- What a round keeps: some blocks. -/
def KeepsL (l : List Nat) (W W' : World) : Prop := W.heap.size ≤ W'.heap.size ∧ ∀ k ∈ l, W'.heap[k]? = W.heap[k]?
theorem KeepsL.trans {l : List Nat} {a b c : World} (h : KeepsL l a b) (k : KeepsL l b c) : KeepsL l a c := ⟨Nat.le_trans h.1 k.1, fun i hi => (k.2 i hi).trans (h.2 i hi)⟩
theorem KeepsL.refl (l : List Nat) (w : World) : KeepsL l w w := ⟨Nat.le_refl _, fun _ _ => rfl⟩
theorem KeepsL.b {l : List Nat} {w : World} (hl : ∀ k ∈ l, k < w.heap.size) (W : World) (g : Nat) (o o' : Obj) (hg : w.heap.size ≤ g) (_h : W.heap[g]? = some o) (_h1 : o.isCells = false) (_h2 : o.isWalk = false) : KeepsL l W (W.putObj g o') :=
  ⟨by simp [World.putObj], fun k hk => World.putObj_heap_other (by have := hl k hk; omega)⟩
theorem KeepsL.of_below {l : List Nat} {W W' : World} (hl : ∀ k ∈ l, k < W.heap.size) (h : Below W.heap.size W W') : KeepsL l W W' := ⟨h.size, fun k hk => h.block k (hl k hk)⟩
theorem Row.of_block {W W' : World} {D : Nat} {k : IntKind} {off n c : Nat} {l : List Int} (hs : W.heap.size ≤ W'.heap.size) (h : W'.heap[D]? = W.heap[D]?) (hr : Row k W (.slice (some ⟨D, off, none⟩) n c) l) : Row k W' (.slice (some ⟨D, off, none⟩) n c) l := by
  obtain ⟨a, cap, h1, h2, h3, h0, h4, h5⟩ := hr
  refine ⟨a, cap, h1, h2, h3, h0, h4, fun hne => ?_⟩
  obtain ⟨b, o, e, hlt, hc⟩ := h5 hne
  subst e
  cases h1
  exact ⟨D, off, rfl, Nat.lt_of_lt_of_le hlt hs, fun i hi => (World.cell?_of_block h).trans (hc i hi)⟩
/-- What the iterator holds. -/
structure Iter (W : World) (B P Q gs gn : Nat) (s : Sm.Sv) (vb : Value) (n : Int) : Prop where
  box : Quad W B 57 (.int .i64 s.bits) (.int .i64 s.hashes) (.int .i64 s.salt) vb
  p : Boxed W P 55 (.slice (some ⟨gs, 0, none⟩) 8 8)
  q : Boxed W Q 55 (.slice (some ⟨gn, 0, none⟩) 8 8)
  salt : Row .u8 W (.slice (some ⟨gs, 0, none⟩) 8 8) (Hm.be 8 s.salt)
  num : Row .u8 W (.slice (some ⟨gn, 0, none⟩) 8 8) (Hm.be 8 n)
theorem Iter.keeps {W W' : World} {B P Q gs gn : Nat} {s : Sm.Sv} {vb : Value} {n : Int} (h : Iter W B P Q gs gn s vb n) (hk : KeepsL [B, P, Q, gs, gn] W W') : Iter W' B P Q gs gn s vb n :=
  ⟨(hk.2 B (by simp)).trans h.box, (hk.2 P (by simp)).trans h.p, (hk.2 Q (by simp)).trans h.q, h.salt.of_block hk.1 (hk.2 gs (by simp)), h.num.of_block hk.1 (hk.2 gn (by simp))⟩
theorem row_block_lt {k : IntKind} {W : World} {D off n c : Nat} {l : List Int} (h : Row k W (.slice (some ⟨D, off, none⟩) n c) l) (hl : l ≠ []) : D < W.heap.size := by
  obtain ⟨_, _, e, _, _, _, _, h5⟩ := h
  cases e
  obtain ⟨b, o, e, hlt, _⟩ := h5 hl
  cases e
  exact hlt
theorem be8_ne (n : Int) : Hm.be 8 n ≠ [] := by simp [Hm.be]
theorem Iter.below {W W' : World} {B P Q gs gn : Nat} {s : Sm.Sv} {vb : Value} {n : Int} (h : Iter W B P Q gs gn s vb n) (hb : Below W.heap.size W W') : Iter W' B P Q gs gn s vb n :=
  h.keeps (KeepsL.of_below (by
    intro k hk
    simp at hk
    rcases hk with rfl | rfl | rfl | rfl | rfl
    · exact h.box.lt
    · exact h.p.lt
    · exact h.q.lt
    · exact row_block_lt h.salt (be8_ne _)
    · exact row_block_lt h.num (be8_ne _)) hb)

theorem Sm.num_rng (a b m : Int) (h : 0 < m) : 0 ≤ Sm.num a b m ∧ Sm.num a b m < m := ⟨Int.emod_nonneg _ (by omega), Int.emod_lt_of_pos _ h⟩
theorem Sm.place_lt (salt m n : Int) (k : Nat) (h : 0 < m) : (Sm.place salt m n k : Int) < m := by
  have := Sm.num_rng (Hm.sum (Sm.tagged Sm.tag [Hm.be 8 salt, [(k : Int)], Hm.be 8 n])).a (Hm.sum (Sm.tagged Sm.tag [Hm.be 8 salt, [(k : Int)], Hm.be 8 n])).b m h
  unfold Sm.place
  dsimp only
  omega

set_option maxRecDepth 100000 in
set_option maxHeartbeats 2000000 in
theorem places1_in (n0 : Nat) (hn : 1 ≤ n0) (L B P Q gs gn : Nat) (s : Sm.Sv) (vb : Value) (n : Int) (hb0 : 8 ≤ s.bits) (hb1 : s.bits ≤ 8192) (hh0 : 1 ≤ s.hashes) (hh1 : s.hashes ≤ 8) (J Jx : List (Pc s.bits) → World → Prop)
    (hJ : ∀ pre W W', J pre W → Below W.heap.size W W' → J pre W')
    (hY : ∀ pre (x : Pc s.bits) W, J pre W → pre.length < s.hashes.toNat → YieldAt Fence.wide (n0 - 1) Try.prog L (pcEnc s.bits x) W fun e W' =>
      (e = .returned (.bool true) ∧ J (pre ++ [x]) W' ∧ KeepsL [B, P, Q, gs, gn] W W') ∨ (e = .returned (.bool false) ∧ Jx (pre ++ [x]) W'))
    (W : World) (hI : Iter W B P Q gs gn s vb n) (h0 : J [] W) :
    CallsIn Fence.wide n0 Try.prog 67 #[.func (.yield L) #[] #[], .pointer (some ⟨B, 0, none⟩), .pointer (some ⟨P, 0, none⟩), .pointer (some ⟨Q, 0, none⟩)] W fun e W' => (∃ v, e = .returned v) ∧
      ((∃ ys : List (Pc s.bits), ys.map (·.1) = Sm.places s.bits s.hashes s.salt n ∧ J ys W') ∨ (∃ pre : List (Pc s.bits), pre.map (·.1) <+: Sm.places s.bits s.hashes s.salt n ∧ Jx pre W')) := by
  have c1 := hI.box.cell1
  obtain ⟨h, hh⟩ : ∃ h : Nat, s.hashes = h := ⟨s.hashes.toNat, by omega⟩
  rw [hh] at c1 hh0 hh1 hY
  rw [Int.toNat_natCast] at hY
  have Hh := Lib.hid hh
  refine callsIn_of_wp Try.func67 rfl trivial ?_ rfl
  simp only [Try.ntmps67, List.size_toArray, List.length_cons, List.length_nil, Nat.reduceAdd, Nat.reduceSub, Array.replicate_succ, Array.replicate_zero, List.push_toArray, List.append_toArray, List.nil_append, List.cons_append]
  gi_wp2
  gi_loopw [9] (fun i wr => ∃ (j : Nat) (pre : List (Pc s.bits)), j ≤ h ∧ i = .int .i64 j ∧ pre.map (·.1) = (List.range j).map (Sm.place s.salt s.bits n) ∧ J pre wr ∧ Iter wr B P Q gs gn s vb n) (fun i _ => h - (intOf i).toNat)
  case atStart => exact ⟨0, [], Nat.zero_le _, rfl, rfl, h0, hI⟩
  case round =>
    obtain ⟨j, pre, hj, rfl, hpm, hJs, hIr⟩ := hrel
    clear hI h0 c1
    by_cases hlt : j < h
    · have hpl : pre.length = j := by have := congrArg List.length hpm; simpa using this
      have b0 := hIr.box.cell0
      have p0 := hIr.p.cell
      have q0 := hIr.q.cell
      obtain ⟨q, hq⟩ : ∃ q, Sm.place s.salt s.bits n j = q := ⟨_, rfl⟩
      have hqb : (q : Int) < s.bits := by rw [← hq]; exact Sm.place_lt _ _ _ _ (by omega)
      obtain ⟨hs, hhs⟩ : ∃ hs, Hm.sum (Sm.tagged Sm.tag [Hm.be 8 s.salt, [(j : Int)], Hm.be 8 n]) = hs := ⟨_, rfl⟩
      have hnq : Sm.num hs.a hs.b s.bits = q := by
        have h1 : (Sm.num hs.a hs.b s.bits).toNat = q := by rw [← hhs]; exact hq
        have h2 := Sm.num_rng hs.a hs.b s.bits (by omega)
        omega
      have hok := Hm.sum_ok (Sm.tagged Sm.tag [Hm.be 8 s.salt, [(j : Int)], Hm.be 8 n])
      rw [hhs] at hok
      obtain ⟨⟨ra0, ra1⟩, ⟨rb0, rb1⟩, -⟩ := hok
      unfold Fm.P at ra1 rb1
      have HQ := Lib.hid hq; have Hs := Lib.hid hhs; have Hnq := Lib.hid hnq; have Hpm := Lib.hid hpm
      have hrws : Rws .u8 ((wr.drew.alloc (.cells #[.int .u8 j] 5)).alloc (.cells #[.slice (some ⟨gs, 0, none⟩) 8 8, .slice (some ⟨wr.heap.size, 0, none⟩) 1 1, .slice (some ⟨gn, 0, none⟩) 8 8] 55)) (.slice (some ⟨wr.heap.size + 1, 0, none⟩) 3 3) [Hm.be 8 s.salt, [(j : Int)], Hm.be 8 n] := by
        have r1 : Row .u8 (wr.drew.alloc (.cells #[.int .u8 j] 5)) (.slice (some ⟨wr.heap.size, 0, none⟩) 1 1) [(j : Int)] := Row.lit .u8 wr.drew 5 [(j : Int)] (by unfold maxLen; simp) (by intro x hx; rw [List.mem_singleton.1 hx]; exact byte_wf_of ⟨by omega, by omega⟩)
        have r0 : Row .u8 (wr.drew.alloc (.cells #[.int .u8 j] 5)) (.slice (some ⟨gs, 0, none⟩) 8 8) (Hm.be 8 s.salt) := (show Row .u8 wr.drew _ _ from hIr.salt).alloc _
        have r2 : Row .u8 (wr.drew.alloc (.cells #[.int .u8 j] 5)) (.slice (some ⟨gn, 0, none⟩) 8 8) (Hm.be 8 n) := (show Row .u8 wr.drew _ _ from hIr.num).alloc _
        have h := Rws.lit .u8 (wr.drew.alloc (.cells #[.int .u8 j] 5)) 55 [.slice (some ⟨gs, 0, none⟩) 8 8, .slice (some ⟨wr.heap.size, 0, none⟩) 1 1, .slice (some ⟨gn, 0, none⟩) 8 8] [Hm.be 8 s.salt, [(j : Int)], Hm.be 8 n] rfl (by unfold maxLen; simp) (by
          intro i hi
          match i, hi with
          | 0, _ => exact r0
          | 1, _ => exact r1
          | 2, _ => exact r2)
        simpa using h
      have HR := Lib.hid hrws
      have ew : IntKind.u8.wrap (j : Int) = j := by rw [IntKind.wrap_u8]; omega
      have eq1 : IntKind.i64.wrap (q : Int) = q := IntWalk.i64_in _ (by omega)
      obtain ⟨r, hr⟩ : ∃ r, q % 8 = r := ⟨_, rfl⟩
      have e7 : bits .and .i64 (q : Int) 7 = (r : Int) := by rw [and7 _ (by omega) (by omega)]; omega
      have hr8 : r < 8 := by omega
      obtain ⟨m, hm⟩ : ∃ m : Int, (2 : Int) ^ r % 256 = m := ⟨_, rfl⟩
      have hpe : pcEnc s.bits ⟨q, hqb⟩ = #[.int .i64 ((q : Int) / 8), .int .u8 m] := by
        unfold pcEnc
        dsimp only
        rw [hr, ← hm]
        have : (2 : Int) ^ r % 256 = ((2 ^ r : Nat) : Int) := by
          have : r = 0 ∨ r = 1 ∨ r = 2 ∨ r = 3 ∨ r = 4 ∨ r = 5 ∨ r = 6 ∨ r = 7 := by omega
          rcases this with rfl | rfl | rfl | rfl | rfl | rfl | rfl | rfl <;> rfl
        rw [this]
        rfl
      have Hpe := Lib.hid hpe
      clear hr hpe
      have eb : IntKind.u64.wrap s.bits = s.bits := by rw [IntKind.wrap_u64]; omega
      clear hq hhs hnq hrws hpm
      gi_wp2
      refine wpIn_wide.2 ?_
      go_region_held3 (fun w' => w'.cell? ⟨B, 0, none⟩ = some (.int .i64 s.bits) ∧ w'.cell? ⟨P, 0, none⟩ = some (.slice (some ⟨gs, 0, none⟩) 8 8) ∧ w'.cell? ⟨Q, 0, none⟩ = some (.slice (some ⟨gn, 0, none⟩) 8 8))
        (first | go_keep | (refine ⟨?_, ?_, ?_⟩ <;> assumption))
        (first
        | (go_at_call 69; refine (Tagged_sieve _ [Hm.be 8 s.salt, [(j : Int)], Hm.be 8 n] _ HR.out (by intro i hi; match i, hi with | 0, _ => simp [Hm.be_length] | 1, _ => simp | 2, _ => simp [Hm.be_length]) (by simp)).mono ?_; rintro e w2 ⟨rfl, hb2⟩; rw [Hs.out]; have hW2 : Below wr.heap.size wr w2 := (bel_alloc (bel_alloc (bel_drew (Below.refl wr.heap.size wr)) _) _).trans (hb2.mono (by first | (simp; done) | (simp; omega))); have i2 := hIr.below hW2; have x0 := i2.box.cell0; have x1 := i2.p.cell; have x2 := i2.q.cell)
        | (go_at_call 68; refine (Num_any hs.a hs.b s.bits _ ra0 (by omega) rb0 (by omega) hb0 hb1).mono ?_; rintro e w3 ⟨rfl, hb3⟩; rw [Hnq.out]; have hW3 : Below wr.heap.size wr w3 := hW2.trans (hb3.mono hW2.size); have i3 := hIr.below hW3; have y0 := i3.box.cell0; have y1 := i3.p.cell; have y2 := i3.q.cell)
        | fail)
      all_goals
        have hJ3 := hJ _ _ _ hJs hW3
        obtain ⟨fn, tmps, assign, body, hy, hR⟩ := hY pre ⟨q, hqb⟩ w3 hJ3 (by omega)
        rw [Hpe.out] at hy
        have e9 : IntKind.i64.wrap ((j : Int) + 1) = (j : Int) + 1 := IntWalk.i64_in _ (by omega)
        clear HR hJ3 hJs hIr i2 x0 x1 x2 y0 y1 y2 b0 p0 q0 hb2 hb3 hW2 hW3
        gi_wp2
        refine hR.mono ?_
        rintro e W' (⟨rfl, hJ', hk⟩ | ⟨rfl, hJx'⟩)
        · have i4 := i3.keeps hk
          clear hR hk i3
          gi_wp2
          go_roundw
          case rel => exact ⟨j + 1, pre ++ [⟨q, hqb⟩], by omega, by go_num, by rw [List.map_append, Hpm.out, List.range_succ, List.map_append]; show _ ++ [q] = _ ++ [Sm.place s.salt s.bits n j]; rw [HQ.out], hJ', i4⟩
          case measure => simp [intOf]; omega
        · gi_wp2
          refine bodyPost_ret (results_none rfl _ _ _) rfl ⟨⟨_, rfl⟩, .inr ⟨pre ++ [⟨q, hqb⟩], ?_, hJx'⟩⟩
          rw [List.map_append, Hpm.out]
          refine ⟨((List.range h).map (Sm.place s.salt s.bits n)).drop (j + 1), ?_⟩
          unfold Sm.places
          rw [Hh.out, Int.toNat_natCast]
          have e : (List.range j).map (Sm.place s.salt s.bits n) ++ List.map (fun x : Pc s.bits => x.1) [⟨q, hqb⟩] = ((List.range h).map (Sm.place s.salt s.bits n)).take (j + 1) := by
            rw [← List.map_take, List.take_range, Nat.min_eq_left (by omega), List.range_succ, List.map_append]; show _ ++ [q] = _ ++ [Sm.place s.salt s.bits n j]; rw [HQ.out]
          rw [e, List.take_append_drop]
    · obtain rfl : j = h := by omega
      have HF := Lib.hid hpm
      clear hpm
      gi_wp2
      go_end0
      exact ⟨⟨_, rfl⟩, .inl ⟨pre, by rw [HF.out]; unfold Sm.places; rw [Hh.out, Int.toNat_natCast], hJs⟩⟩
end Go.Proofs.Ytconpdliadhahaa
