/-
  The walk over TopShares: whatever the input, it answers true.
-/
import Derived.Test.YtlaidjgdipacgaaGreatDoorIg
namespace Go.Proofs.YtlaidjgdipacgaaGreatDoor
open Go.RowKit Go.Shelf
attribute [local go_sem] Oper.semAt_some

set_option maxRecDepth 100000 in
set_option maxHeartbeats 2000000 in
theorem TopShares_any (v : Value) (seed : List Int) (t n : Int) (vp : Value) (pick : List Int) (vm : Value) (msg : List Int) (w : World) (hk : KindsAt w) (h0 : Row .u8 w v seed) (wt : (Lit.int .i64 t).wf = true) (wn : (Lit.int .i64 n).wf = true) (h3 : Row .i64 w vp pick) (h4 : Row .u8 w vm msg) :
    Calls Tryz.prog 3 #[v, .int .i64 t, .int .i64 n, vp, vm] w fun e w' => e = .returned (.bool true) ∧ Below w.heap.size w w' := by
  obtain ⟨m, hm⟩ : ∃ m, msg.length = m := ⟨_, rfl⟩
  obtain ⟨ma, mc, rfl⟩ := h4.shape m hm
  have U := up_true w hk
  by_cases hbad : 200 < seed.length ∨ 30 < pick.length ∨ t < 1 ∨ n < t ∨ 7 < n
  · have D := fun W (hb : Below w.heap.size w W) => dealt_bad t n v vp seed pick W (h0.below hb) (h3.below hb) hbad
    clear h0 h3 hbad wt wn h4 hm
    go_enter Tryz.func3, Tryz.ntmps3
    go_wp2_with fail
    refine U.mono ?_; rintro e w1 ⟨rfl, hb1⟩
    go_wp2_with fail
    refine (D _ hb1).mono ?_; rintro e w2 ⟨rfl, hb2⟩
    unfold noDeal
    go_wp2_with fail
    go_ret
    have q := hb1.trans (hb2.mono hb1.size)
    exact ⟨rfl, q.alloc q.size _⟩
  · obtain ⟨T, rfl⟩ : ∃ T : Nat, t = T := ⟨t.toNat, by omega⟩
    obtain ⟨N, rfl⟩ : ∃ N : Nat, n = N := ⟨n.toNat, by omega⟩
    have s1 : seed.length ≤ 200 := by omega
    have s2 : pick.length ≤ 30 := by omega
    have t0 : 1 ≤ T := by omega
    have tn : T ≤ N := by omega
    have n7 : N ≤ 7 := by omega
    have D := fun W (hb : Below w.heap.size w W) => dealt_good T N v vp seed pick W (h0.below hb) (h3.below hb) s1 s2 t0 tn n7
    have xr := Gm.some_rng Gm.tSecret [seed]
    obtain ⟨x, hx⟩ : ∃ x, Gm.secret seed = x := ⟨_, rfl⟩
    have hx' : Gm.some Gm.tSecret [seed] = x := hx
    rw [hx'] at xr
    rw [hx] at D
    obtain ⟨g, hg⟩ : ∃ g, Gm.base x = g := ⟨_, rfl⟩
    rw [hg] at D
    have H4 := Lib.hid h4; have HM := Lib.hid hm
    clear h0 h3 hbad wt wn h4 hm s1 s2 hx hx'
    by_cases hlen : 2000 < m
    · have hlen' : (2000 : Int) < (m : Int) := by omega
      clear hlen
      go_enter Tryz.func3, Tryz.ntmps3
      go_wp2_with fail
      refine U.mono ?_; rintro e w1 ⟨rfl, hb1⟩
      go_wp2_with fail
      refine (D _ hb1).mono ?_; rintro e w2 ⟨⟨ap, cp, aq, cs, ao, co, no, l, rfl, -, -, -, -, -⟩, hb2⟩
      go_wp2_with fail
      go_ret
      have q := hb1.trans (hb2.mono hb1.size)
      exact ⟨rfl, q.alloc q.size _⟩
    · have hlen' : ¬ (2000 : Int) < (m : Int) := by omega
      have ml : msg.length ≤ 10000 := by have := HM.out; omega
      clear hlen
      go_enter Tryz.func3, Tryz.ntmps3
      go_wp2_with fail
      refine U.mono ?_; rintro e w1 ⟨rfl, hb1⟩
      go_wp2_with fail
      refine (D _ hb1).mono ?_; rintro e w2 ⟨⟨ap, cp, aq, cs, ao, co, no, l, rfl, sp, sq, so, hsub, hTl⟩, hb2⟩
      have q2 := hb1.trans (hb2.mono hb1.size)
      have q3 := q2.alloc q2.size (.cells #[.int .i64 T, .int .i64 N, .int .u64 g, .slice ap N cp] 28)
      have bd := Blk.new w2 28 [.int .i64 T, .int .i64 N, .int .u64 g, .slice ap N cp]
      have a1 : Below w2.heap.size w2 (w2.alloc (.cells #[.int .i64 T, .int .i64 N, .int .u64 g, .slice ap N cp] 28)) := (Below.refl _ _).alloc (Nat.le_refl _) _
      have hlne : l ≠ [] := by rintro rfl; simp at hTl; omega
      obtain ⟨L, hL⟩ : ∃ L, Gm.split x seed T N = L := ⟨_, rfl⟩
      have lenL : L.length = N := by rw [← hL]; exact Gm.split_len _ _ _ _
      have hLne : L ≠ [] := by rintro rfl; simp at lenL; omega
      have f1 := (fit_part n7 hsub hlne).1
      have j1 := join_part n7 hsub t0 hTl (by omega) xr.2
      have f2 := (fit_part n7 (List.Sublist.refl (Gm.split x seed T N)) (by rw [hL]; exact hLne)).1
      have j2 := join_part n7 (List.Sublist.refl (Gm.split x seed T N)) t0 (by rw [hL, lenL]; exact tn) (by omega) xr.2
      have f3 := (fit_part (s := x) (seed := seed) (t := T) n7 (List.take_sublist T (Gm.split x seed T N)) (by rw [hL]; intro e; have := congrArg List.length e; rw [List.length_take, lenL] at this; simp at this; omega)).1
      have mp := more_part (s := x) (seed := seed) n7 t0 tn
      rw [hL] at f2 j2 f3 mp sp sq
      have C1 := fun W (hb : Below w2.heap.size w2 W) => Join_any (.slice ao no co) l W (so.below hb) f1
      have C2 := fun W (hb : Below w2.heap.size w2 W) => Join_any (.slice aq N cs) L W (sq.below hb) f2
      have C3 := fun W => SPublic_yes x W (by omega) xr.2
      have C4 := fun W (hb : Below w.heap.size w W) => Sign_yes x (.slice ma m mc) msg W (by omega) xr.2 (H4.out.below hb) ml
      have C5 := fun W (hb : Below w.heap.size w W) => SCheck_yes x (.slice ma m mc) msg W (by omega) xr.2 (H4.out.below hb) ml
      have C6 := fun W (hb : Below w2.heap.size w2 W) => Check_yes T (.slice ap N cp) L W (sp.below hb) f2.1 t0 (by rw [lenL]; exact tn) f3 mp
      rw [j1] at C1
      rw [j2] at C2
      rw [hg] at C3 C5
      obtain ⟨E, hE⟩ : ∃ E, Gm.sigE x msg = E := ⟨_, rfl⟩
      obtain ⟨S, hS⟩ : ∃ S, Gm.sigS x msg = S := ⟨_, rfl⟩
      rw [hE, hS] at C4 C5
      obtain ⟨V, hV⟩ : ∃ V, w2.alloc (.cells #[.int .i64 T, .int .i64 N, .int .u64 g, .slice ap N cp] 28) = V := ⟨_, rfl⟩
      obtain ⟨B, hB⟩ : ∃ B, w2.heap.size = B := ⟨_, rfl⟩
      rw [hB] at bd
      have hbd : Blk V B 28 [.int .i64 T, .int .i64 N, .int .u64 g, .slice ap N cp] := by rw [← hV]; exact bd
      rw [hV] at q3 a1
      have Q3 := Lib.hid q3; have A1 := Lib.hid a1; have BD := Lib.hid hbd; have HD1 := Lib.hid C1; have HD2 := Lib.hid C2; have HD3 := Lib.hid C3; have HD4 := Lib.hid C4; have HD5 := Lib.hid C5; have HD6 := Lib.hid C6
      have HV := Lib.hid hV; have HB := Lib.hid hB
      clear q3 a1 bd hbd C1 C2 C3 C4 C5 C6 hV hB hE hS f1 j1 f2 j2 f3 mp sp sq so hsub hTl hL lenL hLne hlne q2 hb1 hb2 U D xr t0 tn n7 ml H4 hk hg
      go_wp2_with fail
      rw [HV.out, HB.out]
      refine (HD1.out _ A1.out).mono ?_; rintro e w3 ⟨rfl, hb3⟩
      have a3 := A1.out.trans (hb3.mono A1.out.size); have q3 := Q3.out.trans (hb3.mono Q3.out.size); have b3 := BD.out.below hb3
      have A3 := Lib.hid a3; have Q3' := Lib.hid q3; have B3 := Lib.hid b3
      clear a3 q3 b3 hb3 A1 Q3 BD HD1
      go_wp2_with fail
      refine (HD2.out _ A3.out).mono ?_; rintro e w4 ⟨rfl, hb4⟩
      have a4 := A3.out.trans (hb4.mono A3.out.size); have q4 := Q3'.out.trans (hb4.mono Q3'.out.size); have b4 := B3.out.below hb4
      have A4 := Lib.hid a4; have Q4 := Lib.hid q4; have B4 := Lib.hid b4
      clear a4 q4 b4 hb4 A3 Q3' B3 HD2
      go_wp2_with fail
      refine (HD3.out _).mono ?_; rintro e w5 ⟨rfl, hb5⟩
      have a5 := A4.out.trans (hb5.mono A4.out.size); have q5 := Q4.out.trans (hb5.mono Q4.out.size); have b5 := B4.out.below hb5
      have A5 := Lib.hid a5; have Q5 := Lib.hid q5; have B5 := Lib.hid b5
      clear a5 q5 b5 hb5 A4 Q4 B4 HD3
      go_wp2_with fail
      refine (HD4.out _ Q5.out).mono ?_; rintro e w6 ⟨rfl, hb6⟩
      have a6 := A5.out.trans (hb6.mono A5.out.size); have q6 := Q5.out.trans (hb6.mono Q5.out.size); have b6 := B5.out.below hb6
      have d6 := Blk.new w6 36 [.int .u64 E, .int .u64 S]
      have a7 : Below w2.heap.size w2 (w6.alloc (.cells #[.int .u64 E, .int .u64 S] 36)) := a6.alloc a6.size _
      have q7 : Below w.heap.size w (w6.alloc (.cells #[.int .u64 E, .int .u64 S] 36)) := q6.alloc q6.size _
      have b7 := b6.alloc (.cells #[.int .u64 E, .int .u64 S] 36)
      have k2 := b6.cell 2 _ rfl; have l6 := b6.lt
      have nB : ¬ B = w6.heap.size := by omega
      have nB' : ¬ w6.heap.size = B := by omega
      have A7 := Lib.hid a7; have Q7 := Lib.hid q7; have B7 := Lib.hid b7; have D6 := Lib.hid d6
      clear a6 q6 b6 hb6 d6 a7 q7 b7 A5 Q5 B5 HD4
      go_wp2_with fail
      refine (HD5.out _ Q7.out).mono ?_; rintro e w8 ⟨rfl, hb8⟩
      have a8 := A7.out.trans (hb8.mono A7.out.size); have q8 := Q7.out.trans (hb8.mono Q7.out.size); have b8 := B7.out.below hb8
      have y0 := b8.cell 0 _ rfl; have y3 := b8.cell 3 _ rfl; have l8 := b8.lt
      have A8 := Lib.hid a8; have Q8 := Lib.hid q8
      clear a8 q8 b8 hb8 A7 Q7 B7 D6 HD5 k2 l6 nB nB'
      go_wp2_with fail
      refine (HD6.out _ A8.out).mono ?_; rintro e w9 ⟨rfl, hb9⟩
      have q9 := Q8.out.trans (hb9.mono Q8.out.size)
      have Q9 := Lib.hid q9
      clear q9 hb9 A8 Q8 HD6 y0 y3 l8
      go_wp2_with fail
      go_ret
      exact ⟨rfl, Q9.out⟩
end Go.Proofs.YtlaidjgdipacgaaGreatDoor
