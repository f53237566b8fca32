/-
  Walks over cascade.Has.
-/
import Derived.Test.YtconpdliadhahaaCb
import Derived.Test.YtconpdliadhahaaVd
namespace Go.Proofs.Ytconpdliadhahaa
open Go.RowKit

set_option maxRecDepth 100000 in
set_option maxHeartbeats 1000000 in
theorem Has1_any (s : Sm.Sv) (vb : Value) (n : Int) (N : Nat) (w : World) (hN : Boxed w N 3 (.int .i64 n)) (h : Row .u8 w vb s.b) :
    Calls Try.prog 40 #[.agg #[.int .i64 s.bits, .int .i64 s.hashes, .int .i64 s.salt, vb], .pointer (some ⟨N, 0, none⟩)] w fun e w' => e = .returned (.bool (!Sm.has s n)) ∧ Below w.heap.size w w' := by
  obtain ⟨a, c, rfl⟩ := h.shape s.b.length rfl
  have qG := Quad.new w 57 (.int .i64 s.bits) (.int .i64 s.hashes) (.int .i64 s.salt) (.slice a s.b.length c)
  have hb0 := (Below.refl w.heap.size w).alloc (Nat.le_refl _) (.cells #[.int .i64 s.bits, .int .i64 s.hashes, .int .i64 s.salt, .slice a s.b.length c] 57)
  have bN := hN.alloc (.cells #[.int .i64 s.bits, .int .i64 s.hashes, .int .i64 s.salt, .slice a s.b.length c] 57)
  have r0 := h.alloc (.cells #[.int .i64 s.bits, .int .i64 s.hashes, .int .i64 s.salt, .slice a s.b.length c] 57)
  have ltN := hN.lt
  obtain ⟨x, hx⟩ : ∃ x, Sm.has s n = x := ⟨_, rfl⟩
  have HX := Lib.hid hx
  rw [hx]
  have cN := bN.cell; have c0 := qG.cell0; have c1 := qG.cell1; have c2 := qG.cell2; have c3 := qG.cell3
  have R0 := Lib.hid r0
  clear hx h r0 hN
  go_enter Try.func40, Try.ntmps40
  go_wp2_with fail
  refine (Has_is s _ n x _ (by exact R0.out) HX.out).mono ?_; rintro e w' ⟨rfl, hb⟩
  have hB := hb0.trans (hb.mono hb0.size)
  clear hb c0 c1 c2 c3 cN
  go_wp2_with fail
  go_ret
  exact ⟨rfl, hB⟩

theorem idx_le (ls : List Sm.Sv) (x : Int) : Cm.idx ls x ≤ ls.length := List.Sublist.length_le (List.takeWhile_sublist _)
/-- All of the first k tell it. -/
def TellTo (ls : List Sm.Sv) (n : Int) (k : Nat) : Prop := ∀ i, i < k → Sm.has (ls[i]?.getD Cm.nil) n = true
theorem idx_stop : ∀ {ls : List Sm.Sv} {n : Int} {k : Nat}, k < ls.length → TellTo ls n k → Sm.has (ls[k]?.getD Cm.nil) n = false → Cm.idx ls n = k
  | [], _, _, h, _, _ => by simp at h
  | s :: ls, n, 0, _, _, hf => Cm.idx_cons_no s ls n (by simpa using hf)
  | s :: ls, n, k + 1, h, ht, hf => by
    have h0 : Sm.has s n = true := by have := ht 0 (by omega); simpa using this
    rw [Cm.idx_cons_yes s ls n h0]
    congr 1
    exact idx_stop (by simpa using h) (fun i hi => by have := ht (i + 1) (by omega); simpa using this) (by simpa using hf)
theorem idx_all : ∀ {ls : List Sm.Sv} {n : Int}, TellTo ls n ls.length → Cm.idx ls n = ls.length
  | [], _, _ => rfl
  | s :: ls, n, ht => by
    have h0 : Sm.has s n = true := by have := ht 0 (by simp); simpa using this
    rw [Cm.idx_cons_yes s ls n h0, idx_all (fun i hi => by have := ht (i + 1) (by simp; omega); simpa using this)]; rfl

set_option maxRecDepth 100000 in
set_option maxHeartbeats 1000000 in
theorem IndexS_any (N : Nat) (n : Int) (v : Value) (ls : List Sm.Sv) (w : World) (hN : Boxed w N 3 (.int .i64 n)) (h : Svs w v ls) (hl : ls.length ≤ 1000000) :
    Calls Try.prog 39 #[v, .func (.func 40) #[] #[.pointer (some ⟨N, 0, none⟩)]] w fun e w' =>
      (∃ r : Int, e = .returned (.int .i64 r) ∧ ((r = -1 ∧ Cm.idx ls n = ls.length) ∨ (r = Cm.idx ls n ∧ Cm.idx ls n < ls.length))) ∧ Below w.heap.size w w' := by
  obtain ⟨a, cap, rfl⟩ := h.shape
  have HR := Lib.hid h
  have BN := Lib.hid hN
  clear h hN
  go_enter Try.func39, Try.ntmps39
  go_wp2_with fail
  go_loopw [5, 8] (fun _ i wr => ∃ k : Nat, i = .int .i64 k ∧ k ≤ ls.length ∧ TellTo ls n k ∧ Below w.heap.size w wr) (fun _ i _ => ls.length - (intOf i).toNat)
  case atStart => exact ⟨0, rfl, Nat.zero_le _, fun j hj => absurd hj (Nat.not_lt_zero _), Below.refl _ _⟩
  case round =>
    obtain ⟨k, rfl, hk, hall, hb⟩ := hrel
    have Hall := Lib.hid hall
    clear hall
    have k0 : (0 : Int) ≤ (k : Int) := by omega
    have e1 : IntKind.i64.wrap ((k : Int) + 1) = (k : Int) + 1 := IntWalk.i64_in _ (by omega)
    by_cases hlt : k < ls.length
    · have k1 : (k : Int) < (ls.length : Int) := by omega
      obtain ⟨_, _, e', _, hcm, _, h5⟩ := HR.out.below hb
      cases e'
      obtain ⟨b, off, rfl, hbl, hc⟩ := h5 (by rintro rfl; simp at hlt)
      obtain ⟨vb, rb, x0, x1, x2, x3⟩ := hc k hlt
      obtain ⟨s, hs⟩ : ∃ s, ls[k]?.getD Cm.nil = s := ⟨_, rfl⟩
      rw [hs] at rb x0 x1 x2
      obtain ⟨av, cv, rfl⟩ := rb.shape s.b.length rfl
      have HS := Lib.hid hs
      have hC := Has1_any s _ n N wr (boxed_stp BN.out hb) rb
      have hbs := hb.size
      clear hc h5 hs rb
      cases hqx : Sm.has s n with
      | true =>
        rw [hqx] at hC
        have HQ := Lib.hid hqx
        clear hqx
        go_wp2_with fail
        refine hC.mono ?_; rintro e w2 ⟨rfl, hb2⟩
        have hb3 := hb.trans (hb2.mono hbs)
        clear hC hb2 x0 x1 x2 x3
        go_wp2_with fail
        go_roundw
        case rel =>
          refine ⟨k + 1, by go_num, by omega, fun j hj => ?_, hb3⟩
          rcases Nat.lt_or_ge j k with h | h
          · exact Hall.out j h
          · obtain rfl : j = k := by omega
            rw [HS.out]; exact HQ.out
        case measure => simp [intOf]; omega
      | false =>
        rw [hqx] at hC
        have HQ := Lib.hid hqx
        clear hqx
        go_wp2_with fail
        refine hC.mono ?_; rintro e w2 ⟨rfl, hb2⟩
        have hb3 := hb.trans (hb2.mono hbs)
        clear hC hb2 x0 x1 x2 x3
        go_wp2_with fail
        go_ret
        have hi := idx_stop hlt Hall.out (by rw [HS.out]; exact HQ.out)
        exact ⟨⟨k, rfl, .inr ⟨by rw [hi], by omega⟩⟩, hb3⟩
    · obtain rfl : k = ls.length := by omega
      go_wp2_with fail
      go_ret
      exact ⟨⟨-1, rfl, .inl ⟨rfl, idx_all Hall.out⟩⟩, hb⟩

theorem and1 (x : Int) (h0 : 0 ≤ x) (h1 : x < 9223372036854775808) : bits .and .i64 x 1 = x % 2 := by
  have two63 : (2 : Int) ^ 63 = 9223372036854775808 := by decide
  have h := bits_mask .i64 63 (by decide) (fun n h0 h1 => by rw [two63] at h1; rw [IntKind.wrap_i64]; omega) 1 (by decide) x h0 (by rw [two63]; omega)
  have e : ((2 : Int) ^ 1 - 1) = 1 := by decide
  rw [e] at h
  rw [h]; rfl

set_option maxRecDepth 100000 in
set_option maxHeartbeats 1000000 in
theorem CHas_any (day : Int) (vl : Value) (ls : List Sm.Sv) (n : Int) (w : World) (h : Svs w vl ls) (hl : ls.length ≤ 1000000) :
    Calls Try.prog 22 #[.agg #[.int .i64 day, vl], .int .i64 n] w fun e w' => e = .returned (.bool (Cm.has day ls n)) ∧ Below w.heap.size w w' := by
  obtain ⟨a, c, rfl⟩ := h.shape
  obtain ⟨B, hB⟩ : ∃ B, w.heap.size = B := ⟨_, rfl⟩
  have q0 := (Duo.new w 35 (.int .i64 day) (.slice a ls.length c)).alloc (.cells #[.int .i64 n] 3)
  have n0 := Boxed.new (w.alloc (.cells #[.int .i64 day, .slice a ls.length c] 35)) 3 (.int .i64 n)
  have hb0 := ((Below.refl w.heap.size w).alloc (Nat.le_refl _) (.cells #[.int .i64 day, .slice a ls.length c] 35)).alloc (by simp) (.cells #[.int .i64 n] 3)
  have r0 := (h.alloc (.cells #[.int .i64 day, .slice a ls.length c] 35)).alloc (.cells #[.int .i64 n] 3)
  rw [hB] at q0
  rw [World.size_alloc, hB] at n0
  obtain ⟨W, hW⟩ : ∃ W, (w.alloc (.cells #[.int .i64 day, .slice a ls.length c] 35)).alloc (.cells #[.int .i64 n] 3) = W := ⟨_, rfl⟩
  rw [hW] at q0 n0 hb0 r0
  have HB := Lib.hid hB; have HW := Lib.hid hW
  have R0 := Lib.hid r0
  have hC := CCheck_any day _ ls W r0 hl
  clear h r0 hB hW
  have c0 := q0.cell0; have c1 := q0.cell1
  by_cases hg : Cm.good day ls
  · have hk : Cm.chk day ls = 0 := by unfold Cm.chk; rw [if_neg (by have := hg.1; omega), if_pos hg]
    rw [hk] at hC
    have hf : Cm.has day ls n = decide (Cm.idx ls n % 2 = 1) := by unfold Cm.has; rw [decide_eq_true hg]; rfl
    rw [hf]
    obtain ⟨i, hi⟩ : ∃ i, Cm.idx ls n = i := ⟨_, rfl⟩
    have hil := idx_le ls n
    rw [hi] at hil ⊢
    have HI := Lib.hid hi
    clear hg hk hf hi
    go_enter Try.func22, Try.ntmps22
    go_wp2_with fail
    rw [HW.out]
    (try rw [HB.out])
    go_wp2_with fail
    refine hC.mono ?_; rintro e w1 ⟨rfl, hb1⟩
    have hB1 := hb0.trans (hb1.mono hb0.size)
    have q1 := q0.stp hb1; have n1 := boxed_stp n0 hb1
    have R1 := Lib.hid (R0.out.below hb1)
    clear hC hb1 c0 c1
    have c0 := q1.cell0; have c1 := q1.cell1
    go_wp2_with fail
    refine (IndexS_any _ n _ ls w1 n1 R1.out hl).mono ?_; rintro e w2 ⟨⟨r, rfl, hr⟩, hb2⟩
    rw [HI.out] at hr
    have hB2 := hB1.trans (hb2.mono hB1.size)
    have q2 := q1.stp hb2
    clear hb2 c0 c1
    have c0 := q2.cell0; have c1 := q2.cell1
    have ha := and1 i (by omega) (by omega)
    have hi2 : (i : Int) % 2 = 1 ↔ i % 2 = 1 := by omega
    rcases hr with ⟨rfl, rfl⟩ | ⟨rfl, hlt⟩
    · go_wp2_with fail
      go_ret
      exact ⟨ret_bool (by rw [Bool.eq_iff_iff, beq_iff_eq, decide_eq_true_iff]; omega), hB2⟩
    · have k0 : (0 : Int) ≤ (i : Int) := by omega
      go_wp2_with fail
      go_ret
      exact ⟨ret_bool (by rw [Bool.eq_iff_iff, beq_iff_eq, decide_eq_true_iff]; omega), hB2⟩
  · have hf : Cm.has day ls n = false := by unfold Cm.has; rw [decide_eq_false hg]; rfl
    have hk : ¬ Cm.chk day ls = 0 := by unfold Cm.chk; by_cases h16 : 16 < ls.length <;> simp [h16, hg]
    obtain ⟨cc, hcc⟩ : ∃ cc, Cm.chk day ls = cc := ⟨_, rfl⟩
    rw [hcc] at hk hC
    rw [hf]
    have HCC := Lib.hid hcc
    clear hg hf hcc
    go_enter Try.func22, Try.ntmps22
    go_wp2_with fail
    rw [HW.out]
    (try rw [HB.out])
    go_wp2_with fail
    refine hC.mono ?_; rintro e w1 ⟨rfl, hb1⟩
    have hB1 := hb0.trans (hb1.mono hb0.size)
    clear hC hb1 c0 c1
    go_wp2_with fail
    go_ret
    exact ⟨rfl, hB1⟩
end Go.Proofs.Ytconpdliadhahaa
