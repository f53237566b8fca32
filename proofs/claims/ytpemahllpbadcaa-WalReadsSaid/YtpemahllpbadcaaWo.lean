/-
  The walks over the laws of layer 20 that put nothing in a loop: WalMore.
-/
import Derived.Test.YtpemahllpbadcaaWv
namespace Go.Proofs.Ytpemahllpbadcaa
open Go.RowKit

/-- A store: its two rows. -/
def Sto (w : World) (v : Value) (x : List Int × List Int) : Prop := ∃ v1 v2, v = .agg #[v1, v2] ∧ Row .u8 w v1 x.1 ∧ Row .u8 w v2 x.2

theorem Rws.shape {k : IntKind} {w : World} {v : Value} {ls : List (List Int)} (h : Rws k w v ls) : ∃ a c, v = .slice a ls.length c ∧ ls.length ≤ c ∧ c ≤ maxLen := by
  obtain ⟨a, c, V, e, h1, h2, -⟩ := h
  exact ⟨a, c, e, h1, h2⟩

theorem Wm.more_facts (S O : List Int) (l m : Nat) (h : l ≤ m) : Wm.good (S ++ O.take l) ≤ Wm.good (S ++ O.take m) ∧ (Wm.read (S ++ O.take l)).length ≤ (Wm.read (S ++ O.take m)).length ∧
    Wm.read (S ++ O.take l) = (Wm.read (S ++ O.take m)).take (Wm.read (S ++ O.take l)).length := by
  have e : S ++ O.take m = (S ++ O.take l) ++ (O.drop l).take (m - l) := by
    rw [List.append_assoc]
    congr 1
    conv => lhs; rw [show m = l + (m - l) by omega, List.take_add]
  obtain ⟨h1, h2⟩ := Wm.read_less (S ++ O.take l) ((O.drop l).take (m - l))
  rw [← e] at h1 h2
  exact ⟨h2, h1.length_le, List.prefix_iff_eq_take.1 h1⟩

set_option maxRecDepth 100000 in
set_option maxHeartbeats 4000000 in
theorem WalMore_any (v0 : Value) (x0 : List Int × List Int) (less more : Int) (w : World) (h : Sto w v0 x0) (_u1 : (Lit.int .i64 less).wf = true) (_u2 : (Lit.int .i64 more).wf = true) :
    Calls Try.prog 7 #[v0, .int .i64 less, .int .i64 more] w fun e w' => e = .returned (.bool true) ∧ Below w.heap.size w w' := by
  obtain ⟨S, O⟩ := x0
  obtain ⟨v1, v2, rfl, r1, r2⟩ := h
  simp only at r1 r2
  obtain ⟨a1, c1, rfl⟩ := r1.shape S.length rfl
  obtain ⟨a2, c2, rfl⟩ := r2.shape O.length rfl
  have dS := Duo.new w 24 (.slice a1 S.length c1) (.slice a2 O.length c2)
  go_enter Try.func7, Try.ntmps7
  go_wp2_with fail
  refine (live_true _).mono ?_; rintro e w1 ⟨rfl, hb1⟩
  have hB1 := bel_stp (bel_alloc (Below.refl _ w) _) hb1
  have dS1 := dS.stp hb1
  have r11 := (r1.alloc _).stp hb1
  have r21 := (r2.alloc _).stp hb1
  clear dS r1 r2 hb1
  have s0 := dS1.cell0
  have s1 := dS1.cell1
  have l1 := dS1.lt
  go_wp2_with fail
  refine (Few_any _ _ S O _ r11 r21).mono ?_; rintro e w2 ⟨rfl, hb2⟩
  have hB2 := bel_stp hB1 hb2
  have dS2 := dS1.stp hb2
  have r12 := r11.stp hb2
  have r22 := r21.stp hb2
  clear dS1 r11 r21 hb2 s0 s1 hB1 l1
  have s0 := dS2.cell0
  have s1 := dS2.cell1
  have l2 := dS2.lt
  by_cases c : S.length ≤ 3000 ∧ O.length ≤ 3000
  · rw [decide_eq_true c]
    obtain ⟨n1, n2⟩ := c
    by_cases g1 : less < 0
    · go_wp2_with fail
      go_ret
      exact ⟨rfl, hB2⟩
    · obtain ⟨l, rfl⟩ : ∃ n : Nat, less = n := ⟨less.toNat, by omega⟩
      by_cases g2 : more < (l : Int)
      · go_wp2_with fail
        go_ret
        exact ⟨rfl, hB2⟩
      · obtain ⟨m, rfl⟩ : ∃ n : Nat, more = n := ⟨more.toNat, by omega⟩
        by_cases g3 : (O.length : Int) < (m : Int)
        · go_wp2_with fail
          go_ret
          exact ⟨rfl, hB2⟩
        · obtain ⟨X, hX⟩ : ∃ X, S ++ O.take l = X := ⟨_, rfl⟩
          obtain ⟨Y, hY⟩ : ∃ Y, S ++ O.take m = Y := ⟨_, rfl⟩
          have HXl : Hid (X.length = S.length + l) := Lib.hid (by rw [← hX]; simp; omega)
          have HYl : Hid (Y.length = S.length + m) := Lib.hid (by rw [← hY]; simp; omega)
          have bX : X.length ≤ 6000 := by rw [HXl.out]; omega
          have bY : Y.length ≤ 6000 := by rw [HYl.out]; omega
          obtain ⟨p1, p2, p3⟩ := Wm.more_facts S O l m (by omega)
          rw [hX, hY] at p1 p2 p3
          go_wp2_with fail
          refine (Crash_yes _ _ S O X l _ r12 r22 (by omega) (by omega) hX).mono ?_; rintro e w3 ⟨a3, c3, rfl, r3, hb3⟩
          have hB3 := bel_stp hB2 hb3
          have dS3 := dS2.stp hb3
          have r13 := r12.stp hb3
          have r23 := r22.stp hb3
          clear dS2 r12 r22 hb3 s0 s1 hB2 l2
          have nA := Duo.new w3 24 (.slice a3 X.length c3) (.slice none 0 0)
          have s0 := dS3.cell0
          have s1 := dS3.cell1
          have l3 := dS3.lt
          go_wp2_with fail
          refine (Crash_yes _ _ S O Y m _ (r13.alloc _) (r23.alloc _) (by omega) (by omega) hY).mono ?_; rintro e w4 ⟨a4, c4, rfl, r4, hb4⟩
          have hB4 := bel_stp (bel_alloc hB3 _) hb4
          have dS4 := (dS3.alloc _).stp hb4
          have dA4 := nA.stp hb4
          have r34 := (r3.alloc _).stp hb4
          clear dS3 nA r3 r13 r23 hb4 s0 s1 hB3 l3
          have nB := Duo.new w4 24 (.slice a4 Y.length c4) (.slice none 0 0)
          have s0 := dA4.cell0
          have s1 := dA4.cell1
          have l4 := dA4.lt
          go_wp2_with fail
          refine (Read_any _ _ X [] _ (r34.alloc _) (Row.nil _ _) (by omega) (by decide)).mono ?_; rintro e w5 ⟨rx, rfl, r5, hb5⟩
          rw [List.append_nil] at r5 ⊢
          have hB5 := bel_stp (bel_alloc hB4 _) hb5
          have dS5 := (dS4.alloc _).stp hb5
          have dA5 := (dA4.alloc _).stp hb5
          have dB5 := nB.stp hb5
          have r45 := (r4.alloc _).stp hb5
          clear dS4 dA4 nB r4 r34 hb5 s0 s1 hB4 l4
          have s0 := dB5.cell0
          have s1 := dB5.cell1
          have l5 := dB5.lt
          go_wp2_with fail
          refine (Read_any _ _ Y [] _ r45 (Row.nil _ _) (by omega) (by decide)).mono ?_; rintro e w6 ⟨ry, rfl, r6, hb6⟩
          rw [List.append_nil] at r6 ⊢
          have hB6 := bel_stp hB5 hb6
          have dS6 := dS5.stp hb6
          have dA6 := dA5.stp hb6
          have r56 := r5.stp hb6
          clear dS5 dA5 dB5 r5 r45 hb6 s0 s1 hB5 l5
          obtain ⟨ax, cx, rfl, q1, q2⟩ := r56.shape
          obtain ⟨ay, cy, rfl, q3, q4⟩ := r6.shape
          have hln := read_len X
          obtain ⟨gx, hgx⟩ : ∃ gx, Wm.good X = gx := ⟨_, rfl⟩
          obtain ⟨gy, hgy⟩ : ∃ gy, Wm.good Y = gy := ⟨_, rfl⟩
          rw [hgx, hgy] at p1
          rw [hgx, hgy]
          obtain ⟨lx, hlx⟩ : ∃ lx, Wm.read X = lx := ⟨_, rfl⟩
          obtain ⟨ly, hly⟩ : ∃ ly, Wm.read Y = ly := ⟨_, rfl⟩
          rw [hlx] at p2 p3 r56 q1 hln ⊢
          rw [hly] at p2 p3 r6 q3 ⊢
          have q5 : lx.length ≤ cy := by omega
          clear q2 q4 hlx hly hgx hgy
          have P3 := Lib.hid p3
          clear p3
          go_wp2_with fail
          refine (Lists_yes _ _ _ _ _ r56 (r6.take _ p2) P3.out (by omega)).mono ?_; rintro e w7 ⟨rfl, hb7⟩
          have hB7 := bel_stp hB6 hb7
          have dS7 := dS6.stp hb7
          have dA7 := dA6.stp hb7
          have s0 := dS7.cell0
          have s1 := dA7.cell0
          have l7 := dS7.lt
          have l8 := dA7.lt
          have ew : IntKind.i64.wrap ((S.length : Int) + l) = (S.length : Int) + l := IntWalk.i64_in _ (by omega)
          have hXi : (X.length : Int) = (S.length : Int) + l := by have := HXl.out; omega
          have t1 : ((X.length : Int) == (S.length : Int) + l) = true := by rw [beq_iff_eq]; exact hXi
          clear q1 q3 q5 hln hXi p1 p2 bX bY n1 n2 g1 g2 g3 hY hX
          go_wp2_with fail
          go_ret
          exact ⟨rfl, hB7⟩
  · rw [decide_eq_false c]
    go_wp2_with fail
    go_ret
    exact ⟨rfl, hB2⟩
end Go.Proofs.Ytpemahllpbadcaa
