/-
  The walk over SieveGrows.
-/
import Derived.Test.YtpmkinnfbnfmbaaTo
namespace Go.Proofs.Ytpmkinnfbnfmbaa
open Go.RowKit

set_option maxRecDepth 100000 in
set_option maxHeartbeats 4000000 in
theorem SieveGrows_any (v : Value) (s : Sm.Sv) (n m : Int) (w : World) (h : SvV w v s) (_k1 : (Lit.int .i64 n).wf = true) (_k2 : (Lit.int .i64 m).wf = true) :
    Calls Try.prog 3 #[v, .int .i64 n, .int .i64 m] w fun e w' => e = .returned (.bool true) ∧ Below w.heap.size w w' := by
  obtain ⟨vb, rfl, rs⟩ := h
  obtain ⟨a_s, c_s, rfl⟩ := rs.shape s.b.length rfl
  have hB := Below.refl w.heap.size w
  have hby := rs.all_byte
  have HBy := Lib.hid hby
  clear hby _k1 _k2
  go_enter Try.func3, Try.ntmps3
  have dS := Quad.new w 24 (.int .i64 s.bits) (.int .i64 s.hashes) (.int .i64 s.salt) (.slice a_s s.b.length c_s)
  go_wp2_with fail
  refine (live_true _).mono ?_; rintro e w1 ⟨rfl, hb⟩
  replace hB := bel_stp (bel_alloc hB _) hb
  replace rs := (rs.alloc _).stp hb
  replace dS := dS.stp hb
  clear hb
  have c0_dS := dS.cell0; have c1_dS := dS.cell1; have c2_dS := dS.cell2; have c3_dS := dS.cell3; have lt_dS := dS.lt
  go_wp2_with fail
  refine (few_any s _ _ [] _ (by exact rs) (Row.nil _ _)).mono ?_; rintro e w2 ⟨rfl, hb⟩
  clear c0_dS c1_dS c2_dS c3_dS lt_dS
  replace hB := bel_stp hB hb
  replace rs := rs.stp hb
  replace dS := dS.stp hb
  clear hb
  by_cases c : s.b.length ≤ 1100 ∧ ([] : List Int).length ≤ 60
  case neg =>
    rw [decide_eq_false c]
    go_wp2_with fail
    go_ret
    exact ⟨rfl, hB⟩
  rw [decide_eq_true c]
  have bl : s.b.length ≤ 1100 := c.1
  clear c
  have c0_dS := dS.cell0; have c1_dS := dS.cell1; have c2_dS := dS.cell2; have c3_dS := dS.cell3; have lt_dS := dS.lt
  by_cases hy : Sm.ok s ∧ Sm.right n
  case neg =>
    go_wp2_with fail
    refine (Put_bad s _ n _ (by exact rs) hy).mono ?_; rintro e w3 ⟨rfl, hb⟩
    clear c0_dS c1_dS c2_dS c3_dS lt_dS
    replace hB := bel_stp hB hb
    replace rs := rs.stp hb
    replace dS := dS.stp hb
    clear hb
    have dX := Quad.new w3 24 (.int .i64 0) (.int .i64 0) (.int .i64 0) (.slice none 0 0)
    clear hy
    have c3 := dX.cell3
    go_wp2_with fail
    go_ret
    exact ⟨rfl, (bel_alloc hB _)⟩
  obtain ⟨X, hX⟩ : ∃ X, Sm.puts s.b (Sm.places s.bits s.hashes s.salt n) = X := ⟨_, rfl⟩
  have hXl : X.length = s.b.length := by rw [← hX, Sm.puts_length]
  have hin := Sm.places_in s n hy.1
  have hagain : Sm.puts X (Sm.places s.bits s.hashes s.salt n) = X := by rw [← hX]; exact Sm.puts_again _ _ HBy.out hin
  have okX : Sm.ok ⟨s.bits, s.hashes, s.salt, X⟩ := Sm.ok_with s X hy.1 hXl
  have hasX : Sm.has ⟨s.bits, s.hashes, s.salt, X⟩ n = true := by rw [← hX]; exact Sm.has_put s n hy.1 hy.2
  have hmore : Sm.has s m = true → Sm.has ⟨s.bits, s.hashes, s.salt, X⟩ m = true := fun ht => by rw [← hX]; exact Sm.has_more s m _ hin ht
  have hor : ∀ i, Sm.bor (s.b[i]?.getD 0) (X[i]?.getD 0) = X[i]?.getD 0 := fun i => by rw [← hX]; exact Sm.bor_puts s.b _ HBy.out hin i
  have hXb : Sm.bytes X := by rw [← hX]; exact Sm.puts_bytes HBy.out _
  have HX := Lib.hid hX; have HXl := Lib.hid hXl; have HAg := Lib.hid hagain; have OKX := Lib.hid okX; have HAS := Lib.hid hasX; have HMo := Lib.hid hmore; have HOr := Lib.hid hor; have HXb := Lib.hid hXb; have HY := Lib.hid hy
  clear hX hin hagain okX hasX hmore hor hXb hy
  go_wp2_with fail
  refine (Put_ok s _ n X _ (by exact rs) HY.out HX.out).mono ?_; rintro e w3 ⟨a_x, c_x, rfl, rx, hb⟩
  clear c0_dS c1_dS c2_dS c3_dS lt_dS
  replace hB := bel_stp hB hb
  replace rs := rs.stp hb
  replace dS := dS.stp hb
  clear hb
  rw [HXl.out] at rx ⊢
  have dX := Quad.new w3 24 (.int .i64 s.bits) (.int .i64 s.hashes) (.int .i64 s.salt) (.slice a_x s.b.length c_x)
  have c0_dS := dS.cell0; have c1_dS := dS.cell1; have c2_dS := dS.cell2; have c3_dS := dS.cell3; have lt_dS := dS.lt
  have c0_dX := dX.cell0; have c1_dX := dX.cell1; have c2_dX := dX.cell2; have c3_dX := dX.cell3; have lt_dX := dX.lt
  obtain ⟨hm, hhm⟩ : ∃ b, Sm.has s m = b := ⟨_, rfl⟩
  have HHm := Lib.hid hhm
  clear hhm hXl
  go_wp2_with fail
  refine (Has_is s _ m hm _ (by exact (rs.alloc _)) HHm.out).mono ?_; rintro e w4 ⟨rfl, hb⟩
  clear c0_dS c1_dS c2_dS c3_dS lt_dS c0_dX c1_dX c2_dX c3_dX lt_dX
  replace hB := bel_stp (bel_alloc hB _) hb
  replace rs := (rs.alloc _).stp hb
  replace dS := (dS.alloc _).stp hb
  replace rx := (rx.alloc _).stp hb
  replace dX := dX.stp hb
  clear hb
  have hfin : ∀ W, Below w4.heap.size w4 W → Below w.heap.size w W := fun W h => bel_stp hB h
  clear hfin
  have c0_dS := dS.cell0; have c1_dS := dS.cell1; have c2_dS := dS.cell2; have c3_dS := dS.cell3; have lt_dS := dS.lt
  have c0_dX := dX.cell0; have c1_dX := dX.cell1; have c2_dX := dX.cell2; have c3_dX := dX.cell3; have lt_dX := dX.lt
  obtain ⟨W1, hW1, hcase⟩ : ∃ W1, W1 = w4 ∧ True := ⟨_, rfl, trivial⟩
  clear hW1 hcase W1
  cases hm
  case false =>
    go_wp2_with fail
    clear c0_dS c1_dS c2_dS c3_dS lt_dS c0_dX c1_dX c2_dX c3_dX lt_dX
    go_loopw [9] (fun i wr => ∃ k : Nat, i = .int .i64 k ∧ k ≤ s.b.length ∧ Below w4.heap.size w4 wr) (fun i _ => s.b.length - (intOf i).toNat)
    case atStart => exact ⟨0, rfl, Nat.zero_le _, Below.refl _ _⟩
    case round =>
      obtain ⟨k, rfl, hk, hb⟩ := hrel
      have hbl := hb
      replace hB := bel_stp hB hb
      replace rs := rs.stp hb
      replace dS := dS.stp hb
      replace rx := rx.stp hb
      replace dX := dX.stp hb
      clear hb
      have k0 : (0 : Int) ≤ (k : Int) := by omega
      have e1 : IntKind.i64.wrap ((k : Int) + 1) = (k : Int) + 1 := IntWalk.i64_in _ (by omega)
      by_cases hlt : k < s.b.length
      case pos =>
        have c0_dS := dS.cell0; have c1_dS := dS.cell1; have c2_dS := dS.cell2; have c3_dS := dS.cell3; have lt_dS := dS.lt
        have c0_dX := dX.cell0; have c1_dX := dX.cell1; have c2_dX := dX.cell2; have c3_dX := dX.cell3; have lt_dX := dX.lt
        obtain ⟨b_x, o_x, ea, hc_x⟩ : ∃ b o, a_s = some ⟨b, o, none⟩ ∧ ∀ i, i < s.b.length → wr.cell? ⟨b, o + i, none⟩ = some (.int .u8 (s.b[i]?.getD 0)) := by
          obtain ⟨_, _, e, _, _, _, _, h5⟩ := rs
          cases e
          obtain ⟨b, o, e, _, hc⟩ := h5 (by intro h0; rw [h0] at hlt; simp at hlt)
          exact ⟨b, o, e, hc⟩
        replace hc_x := hc_x k (by omega)
        obtain ⟨x, hxx⟩ : ∃ x, s.b[k]?.getD 0 = x := ⟨_, rfl⟩
        rw [hxx] at hc_x
        have Hx := Lib.hid hxx
        clear hxx
        subst ea
        have hlx : k < X.length := by rw [HXl.out]; exact hlt
        obtain ⟨b_y, o_y, ea, hc_y⟩ : ∃ b o, a_x = some ⟨b, o, none⟩ ∧ ∀ i, i < X.length → wr.cell? ⟨b, o + i, none⟩ = some (.int .u8 (X[i]?.getD 0)) := by
          obtain ⟨_, _, e, _, _, _, _, h5⟩ := rx
          injection e with q1 _ q3
          subst q1 q3
          obtain ⟨b, o, e, _, hc⟩ := h5 (by intro h0; rw [h0] at hlx; simp at hlx)
          exact ⟨b, o, e, hc⟩
        replace hc_y := hc_y k hlx
        have hor := HOr.out k
        obtain ⟨y, hxy⟩ : ∃ x, X[k]?.getD 0 = x := ⟨_, rfl⟩
        have hbx := Sm.byte_at s.b HBy.out k
        have hby := Sm.byte_at X HXb.out k
        rw [hxy] at hc_y hor hby
        rw [Hx.out] at hor hbx
        subst ea
        have eor : bits .or .u8 x y = y := by rw [or8 x y hbx hby]; exact hor
        have k1 : (k : Int) < (s.b.length : Int) := by omega
        clear hor hxy hbx hby hlx
        go_wp2_with fail
        go_region
        all_goals
          go_wp2_with fail
          replace hbl := hbl.drew
          go_roundw
          case rel => exact ⟨k + 1, by go_num, by omega, hbl⟩
          case measure => simp [intOf]; omega
      obtain rfl : k = s.b.length := by omega
      clear hlt
      clear hbl
      have c0_dS := dS.cell0; have c1_dS := dS.cell1; have c2_dS := dS.cell2; have c3_dS := dS.cell3; have lt_dS := dS.lt
      have c0_dX := dX.cell0; have c1_dX := dX.cell1; have c2_dX := dX.cell2; have c3_dX := dX.cell3; have lt_dX := dX.lt
      have rx' := rx
      go_wp2_with fail
      refine (Put_ok ⟨s.bits, s.hashes, s.salt, X⟩ _ n X _ (by exact rx') ⟨OKX.out, HY.out.2⟩ HAg.out).mono ?_; rintro e w5 ⟨a_y, c_y, rfl, ry, hb⟩
      clear c0_dS c1_dS c2_dS c3_dS lt_dS c0_dX c1_dX c2_dX c3_dX lt_dX
      replace hB := bel_stp hB hb
      replace rs := rs.stp hb
      replace dS := dS.stp hb
      replace rx := rx.stp hb
      replace dX := dX.stp hb
      clear hb
      clear rx'
      rw [HXl.out] at ry ⊢
      have dY := Quad.new w5 24 (.int .i64 s.bits) (.int .i64 s.hashes) (.int .i64 s.salt) (.slice a_y s.b.length c_y)
      have c0_dX := dX.cell0; have c1_dX := dX.cell1; have c2_dX := dX.cell2; have c3_dX := dX.cell3; have lt_dX := dX.lt
      have rx' := (rx.alloc (.cells #[.int .i64 s.bits, .int .i64 s.hashes, .int .i64 s.salt, .slice a_y s.b.length c_y] 24))
      go_wp2_with fail
      refine (Has_is ⟨s.bits, s.hashes, s.salt, X⟩ _ n true _ (by exact rx') HAS.out).mono ?_; rintro e w6 ⟨rfl, hb⟩
      clear c0_dX c1_dX c2_dX c3_dX lt_dX
      replace hB := bel_stp (bel_alloc hB _) hb
      replace rs := (rs.alloc _).stp hb
      replace dS := (dS.alloc _).stp hb
      replace rx := (rx.alloc _).stp hb
      replace dX := (dX.alloc _).stp hb
      replace ry := (ry.alloc _).stp hb
      replace dY := dY.stp hb
      clear hb
      clear rx'
      have c0_dS := dS.cell0; have c1_dS := dS.cell1; have c2_dS := dS.cell2; have c3_dS := dS.cell3; have lt_dS := dS.lt
      have c0_dX := dX.cell0; have c1_dX := dX.cell1; have c2_dX := dX.cell2; have c3_dX := dX.cell3; have lt_dX := dX.lt
      have c0_dY := dY.cell0; have c1_dY := dY.cell1; have c2_dY := dY.cell2; have c3_dY := dY.cell3; have lt_dY := dY.lt
      have rx' := rx
      have ry' := ry
      go_wp2_with fail
      refine (SSame_yes s.bits s.hashes s.salt _ _ X _ (by exact rx') (by exact ry')).mono ?_; rintro e w7 ⟨rfl, hb⟩
      clear c0_dS c1_dS c2_dS c3_dS lt_dS c0_dX c1_dX c2_dX c3_dX lt_dX c0_dY c1_dY c2_dY c3_dY lt_dY
      replace hB := bel_stp hB hb
      replace rs := rs.stp hb
      replace dS := dS.stp hb
      replace rx := rx.stp hb
      replace dX := dX.stp hb
      replace ry := ry.stp hb
      replace dY := dY.stp hb
      clear hb
      clear rx' ry'
      have c0_dS := dS.cell0; have c1_dS := dS.cell1; have c2_dS := dS.cell2; have c3_dS := dS.cell3; have lt_dS := dS.lt
      have c0_dX := dX.cell0; have c1_dX := dX.cell1; have c2_dX := dX.cell2; have c3_dX := dX.cell3; have lt_dX := dX.lt
      go_wp2_with fail
      go_ret
      exact ⟨rfl, hB⟩
  case true =>
    have hx := HMo.out HHm.out
    have Hxm := Lib.hid hx
    clear hx
    have rx' := rx
    go_wp2_with fail
    refine (Has_is ⟨s.bits, s.hashes, s.salt, X⟩ _ m true _ (by exact rx') Hxm.out).mono ?_; rintro e w5 ⟨rfl, hb⟩
    clear c0_dS c1_dS c2_dS c3_dS lt_dS c0_dX c1_dX c2_dX c3_dX lt_dX
    replace hB := bel_stp hB hb
    replace rs := rs.stp hb
    replace dS := dS.stp hb
    replace rx := rx.stp hb
    replace dX := dX.stp hb
    clear hb
    clear rx'
    have c0_dS := dS.cell0; have c1_dS := dS.cell1; have c2_dS := dS.cell2; have c3_dS := dS.cell3; have lt_dS := dS.lt
    have c0_dX := dX.cell0; have c1_dX := dX.cell1; have c2_dX := dX.cell2; have c3_dX := dX.cell3; have lt_dX := dX.lt
    go_wp2_with fail
    clear c0_dS c1_dS c2_dS c3_dS lt_dS c0_dX c1_dX c2_dX c3_dX lt_dX
    go_loopw [9] (fun i wr => ∃ k : Nat, i = .int .i64 k ∧ k ≤ s.b.length ∧ Below w5.heap.size w5 wr) (fun i _ => s.b.length - (intOf i).toNat)
    case atStart => exact ⟨0, rfl, Nat.zero_le _, Below.refl _ _⟩
    case round =>
      obtain ⟨k, rfl, hk, hb⟩ := hrel
      have hbl := hb
      replace hB := bel_stp hB hb
      replace rs := rs.stp hb
      replace dS := dS.stp hb
      replace rx := rx.stp hb
      replace dX := dX.stp hb
      clear hb
      have k0 : (0 : Int) ≤ (k : Int) := by omega
      have e1 : IntKind.i64.wrap ((k : Int) + 1) = (k : Int) + 1 := IntWalk.i64_in _ (by omega)
      by_cases hlt : k < s.b.length
      case pos =>
        have c0_dS := dS.cell0; have c1_dS := dS.cell1; have c2_dS := dS.cell2; have c3_dS := dS.cell3; have lt_dS := dS.lt
        have c0_dX := dX.cell0; have c1_dX := dX.cell1; have c2_dX := dX.cell2; have c3_dX := dX.cell3; have lt_dX := dX.lt
        obtain ⟨b_x, o_x, ea, hc_x⟩ : ∃ b o, a_s = some ⟨b, o, none⟩ ∧ ∀ i, i < s.b.length → wr.cell? ⟨b, o + i, none⟩ = some (.int .u8 (s.b[i]?.getD 0)) := by
          obtain ⟨_, _, e, _, _, _, _, h5⟩ := rs
          cases e
          obtain ⟨b, o, e, _, hc⟩ := h5 (by intro h0; rw [h0] at hlt; simp at hlt)
          exact ⟨b, o, e, hc⟩
        replace hc_x := hc_x k (by omega)
        obtain ⟨x, hxx⟩ : ∃ x, s.b[k]?.getD 0 = x := ⟨_, rfl⟩
        rw [hxx] at hc_x
        have Hx := Lib.hid hxx
        clear hxx
        subst ea
        have hlx : k < X.length := by rw [HXl.out]; exact hlt
        obtain ⟨b_y, o_y, ea, hc_y⟩ : ∃ b o, a_x = some ⟨b, o, none⟩ ∧ ∀ i, i < X.length → wr.cell? ⟨b, o + i, none⟩ = some (.int .u8 (X[i]?.getD 0)) := by
          obtain ⟨_, _, e, _, _, _, _, h5⟩ := rx
          injection e with q1 _ q3
          subst q1 q3
          obtain ⟨b, o, e, _, hc⟩ := h5 (by intro h0; rw [h0] at hlx; simp at hlx)
          exact ⟨b, o, e, hc⟩
        replace hc_y := hc_y k hlx
        have hor := HOr.out k
        obtain ⟨y, hxy⟩ : ∃ x, X[k]?.getD 0 = x := ⟨_, rfl⟩
        have hbx := Sm.byte_at s.b HBy.out k
        have hby := Sm.byte_at X HXb.out k
        rw [hxy] at hc_y hor hby
        rw [Hx.out] at hor hbx
        subst ea
        have eor : bits .or .u8 x y = y := by rw [or8 x y hbx hby]; exact hor
        have k1 : (k : Int) < (s.b.length : Int) := by omega
        clear hor hxy hbx hby hlx
        go_wp2_with fail
        go_region
        all_goals
          go_wp2_with fail
          replace hbl := hbl.drew
          go_roundw
          case rel => exact ⟨k + 1, by go_num, by omega, hbl⟩
          case measure => simp [intOf]; omega
      obtain rfl : k = s.b.length := by omega
      clear hlt
      clear hbl
      have c0_dS := dS.cell0; have c1_dS := dS.cell1; have c2_dS := dS.cell2; have c3_dS := dS.cell3; have lt_dS := dS.lt
      have c0_dX := dX.cell0; have c1_dX := dX.cell1; have c2_dX := dX.cell2; have c3_dX := dX.cell3; have lt_dX := dX.lt
      have rx' := rx
      go_wp2_with fail
      refine (Put_ok ⟨s.bits, s.hashes, s.salt, X⟩ _ n X _ (by exact rx') ⟨OKX.out, HY.out.2⟩ HAg.out).mono ?_; rintro e w6 ⟨a_y, c_y, rfl, ry, hb⟩
      clear c0_dS c1_dS c2_dS c3_dS lt_dS c0_dX c1_dX c2_dX c3_dX lt_dX
      replace hB := bel_stp hB hb
      replace rs := rs.stp hb
      replace dS := dS.stp hb
      replace rx := rx.stp hb
      replace dX := dX.stp hb
      clear hb
      clear rx'
      rw [HXl.out] at ry ⊢
      have dY := Quad.new w6 24 (.int .i64 s.bits) (.int .i64 s.hashes) (.int .i64 s.salt) (.slice a_y s.b.length c_y)
      have c0_dX := dX.cell0; have c1_dX := dX.cell1; have c2_dX := dX.cell2; have c3_dX := dX.cell3; have lt_dX := dX.lt
      have rx' := (rx.alloc (.cells #[.int .i64 s.bits, .int .i64 s.hashes, .int .i64 s.salt, .slice a_y s.b.length c_y] 24))
      go_wp2_with fail
      refine (Has_is ⟨s.bits, s.hashes, s.salt, X⟩ _ n true _ (by exact rx') HAS.out).mono ?_; rintro e w7 ⟨rfl, hb⟩
      clear c0_dX c1_dX c2_dX c3_dX lt_dX
      replace hB := bel_stp (bel_alloc hB _) hb
      replace rs := (rs.alloc _).stp hb
      replace dS := (dS.alloc _).stp hb
      replace rx := (rx.alloc _).stp hb
      replace dX := (dX.alloc _).stp hb
      replace ry := (ry.alloc _).stp hb
      replace dY := dY.stp hb
      clear hb
      clear rx'
      have c0_dS := dS.cell0; have c1_dS := dS.cell1; have c2_dS := dS.cell2; have c3_dS := dS.cell3; have lt_dS := dS.lt
      have c0_dX := dX.cell0; have c1_dX := dX.cell1; have c2_dX := dX.cell2; have c3_dX := dX.cell3; have lt_dX := dX.lt
      have c0_dY := dY.cell0; have c1_dY := dY.cell1; have c2_dY := dY.cell2; have c3_dY := dY.cell3; have lt_dY := dY.lt
      have rx' := rx
      have ry' := ry
      go_wp2_with fail
      refine (SSame_yes s.bits s.hashes s.salt _ _ X _ (by exact rx') (by exact ry')).mono ?_; rintro e w8 ⟨rfl, hb⟩
      clear c0_dS c1_dS c2_dS c3_dS lt_dS c0_dX c1_dX c2_dX c3_dX lt_dX c0_dY c1_dY c2_dY c3_dY lt_dY
      replace hB := bel_stp hB hb
      replace rs := rs.stp hb
      replace dS := dS.stp hb
      replace rx := rx.stp hb
      replace dX := dX.stp hb
      replace ry := ry.stp hb
      replace dY := dY.stp hb
      clear hb
      clear rx' ry'
      have c0_dS := dS.cell0; have c1_dS := dS.cell1; have c2_dS := dS.cell2; have c3_dS := dS.cell3; have lt_dS := dS.lt
      have c0_dX := dX.cell0; have c1_dX := dX.cell1; have c2_dX := dX.cell2; have c3_dX := dX.cell3; have lt_dX := dX.lt
      go_wp2_with fail
      go_ret
      exact ⟨rfl, hB⟩
end Go.Proofs.Ytpmkinnfbnfmbaa
