/-
  The walk of DerShort: cut short it is none.
-/
import Derived.Test.YtpmiihmhfagfoaaDoorOb
namespace Go.Proofs.YtpmiihmhfagfoaaDoor
open Go.RowKit

theorem and_ffff (p : Int) : ∃ q : Nat, bits .and .i64 p 65535 = (q : Int) := by
  refine ⟨(BitVec.ofInt 64 p &&& BitVec.ofInt 64 65535).toNat, ?_⟩
  show IntKind.i64.wrap ((BitVec.ofInt 64 p &&& BitVec.ofInt 64 65535).toNat : Int) = _
  have h1 : (BitVec.ofInt 64 65535).toNat = 65535 := by decide
  have h2 : (BitVec.ofInt 64 p &&& BitVec.ofInt 64 65535).toNat ≤ 65535 := by rw [BitVec.toNat_and, h1]; exact Nat.and_le_right
  exact IntWalk.i64_in _ (by omega)
theorem getAt_zero {l : List Int} {e : Int} (h : Dm.get 8 l = .error e) : getAt l 0 = .error e := by
  unfold getAt
  rw [if_neg (by omega), Int.toNat_zero, List.drop_zero, h]
theorem cut_get {x : Dm.It} {n : Nat} (hm : Dm.may 8 x = true) (hl : Dm.len x ≤ 8192) (hn : n < Dm.len x) : getAt ((Dm.bytes x).take n) 0 = .error 70 :=
  getAt_zero (Dm.get_cut x 8 n (Dm.mayB_known (may_b hm)) (by decide) hl hn)
theorem seq_get {x : Dm.It} {n : Nat} (hm : Dm.may 8 x = true) (hl : Dm.len x ≤ 8192) (hn : n < Dm.len x) (h0 : 1 ≤ n) (h1 : n ≤ 127) : getAt ([48, (n : Int)] ++ (Dm.bytes x).take n) 0 = .error 71 := by
  refine getAt_zero ?_
  have hln : ((Dm.bytes x).take n).length = n := by rw [List.length_take, Dm.bytes_len]; omega
  have hL : Dm.lenR ((n : Int) :: (Dm.bytes x).take n) = .ok (n, 1) := by rw [Dm.lenR_cons, if_pos (by omega)]; simp
  have hc := Dm.get_cut x 7 n (Dm.mayB_known (may_b hm)) (by decide) hl hn
  show Dm.getW (Dm.get 7) true (48 :: (n : Int) :: (Dm.bytes x).take n) = _
  rw [Dm.getW_cons, if_neg (by decide), hL]
  simp only
  rw [if_neg (by omega), if_neg (by simp only [List.length_cons, hln]; omega)]
  simp only [if_true, List.drop_one, List.tail_cons]
  rw [List.take_of_length_le (by omega)]
  rw [many_stop (by intro e; rw [e] at hln; simp at hln; omega) hc]

set_option maxRecDepth 100000 in
set_option maxHeartbeats 4000000 in
theorem DerShort_any (v : Value) (x : Dm.It) (p : Int) (w : World) (hk : KindsAt w) (hx : ItV w v x) (hw : Dm.wt x ≤ 1048576) (_hp : (Lit.int .i64 p).wf = true) :
    Calls Tryd.prog 7 #[v, .int .i64 p] w fun e w' => e = .returned (.bool true) ∧ Below w.heap.size w w' := by
  obtain ⟨ab, cb, al, cl, rfl, hp⟩ := hx.parts
  obtain ⟨nb, hnb⟩ : ∃ n, x.b.length = n := ⟨_, rfl⟩
  obtain ⟨nl, hnl⟩ : ∃ n, x.l.length = n := ⟨_, rfl⟩
  obtain ⟨q, hq⟩ := and_ffff p
  rw [hnb, hnl] at hp ⊢
  have q0 := Trip.new w 25 (.int .i64 x.tag) (.slice ab nb cb) (.slice al nl cl)
  have hb0 := (Below.refl w.heap.size w).alloc (Nat.le_refl _) (.cells #[.int .i64 x.tag, .slice ab nb cb, .slice al nl cl] 25)
  have hC1 := live07_true _ (hk.below hb0)
  have HK := Lib.hid hk; have HP := Lib.hid hp; have HB0 := Lib.hid hb0; have Q0 := Lib.hid q0
  clear hk hp hb0 q0 hx hnb hnl
  go_enter Tryd.func7, Tryd.ntmps7
  go_wp2_with fail
  refine hC1.mono ?_; rintro e w1 ⟨rfl, hb⟩
  have hB1 := HB0.out.trans (hb.mono HB0.out.size)
  have q1 := trip_stp Q0.out hb
  have c0 := q1.cell0; have c1' := q1.cell1; have c2' := q1.cell2
  have hC2 := Few_any x _ _ w1 (HP.out.below hB1) (by omega)
  have HB1 := Lib.hid hB1; have Q1 := Lib.hid q1
  clear hC1 hb hB1 q1
  by_cases hfew : Dm.wt x ≤ 9000
  case neg =>
    rw [decide_eq_false hfew] at hC2
    go_wp2_with fail
    refine hC2.mono ?_; rintro e w2 ⟨rfl, hb⟩
    clear hC2
    have hB2 := HB1.out.trans (hb.mono HB1.out.size)
    go_wp2_with fail
    go_ret
    exact ⟨rfl, hB2⟩
  rw [decide_eq_true hfew] at hC2
  go_wp2_with fail
  refine hC2.mono ?_; rintro e w2 ⟨rfl, hb⟩
  have hB2 := HB1.out.trans (hb.mono HB1.out.size)
  have q2 := trip_stp Q1.out hb
  have c0 := q2.cell0; have c1' := q2.cell1; have c2' := q2.cell2
  have hC3 := Put_any x (by omega) _ _ w2 (HK.out.below hB2) (HP.out.below hB2)
  have HB2 := Lib.hid hB2; have Q2 := Lib.hid q2
  clear hC2 hb hB2 q2
  by_cases hm : Dm.may 8 x = true
  case neg =>
    have hC3' := hC3.mono (fun e w' (h : Putted w2 w' x e ∧ _) => (⟨by have := h.1; unfold Putted at this; rwa [if_neg hm] at this, h.2⟩ : e = .returned (.tuple #[.slice none 0 0, .int .i64 1]) ∧ Below w2.heap.size w2 w'))
    clear hC3
    go_wp2_with fail
    refine hC3'.mono ?_; rintro e w3 ⟨rfl, hb⟩
    have hB3 := HB2.out.trans (hb.mono HB2.out.size)
    clear hC3'
    go_wp2_with fail
    go_ret
    exact ⟨rfl, hB3⟩
  by_cases h8 : Dm.len x ≤ 8192
  case neg =>
    have hC3' := hC3.mono (fun e w' (h : Putted w2 w' x e ∧ _) => (⟨by have := h.1; unfold Putted at this; rwa [if_pos hm, if_neg h8] at this, h.2⟩ : e = .returned (.tuple #[.slice none 0 0, .int .i64 2]) ∧ Below w2.heap.size w2 w'))
    clear hC3
    go_wp2_with fail
    refine hC3'.mono ?_; rintro e w3 ⟨rfl, hb⟩
    have hB3 := HB2.out.trans (hb.mono HB2.out.size)
    clear hC3'
    go_wp2_with fail
    go_ret
    exact ⟨rfl, hB3⟩
  have hzb := Dm.bytes_len x
  obtain ⟨L, hL⟩ : ∃ L, Dm.len x = L := ⟨_, rfl⟩
  have hC3' : Calls Tryd.prog 14 #[.agg #[.int .i64 x.tag, .slice ab nb cb, .slice al nl cl]] w2 fun e w' => (∃ a c, e = .returned (.tuple #[.slice a L c, .int .i64 0]) ∧ OwnB w' w2.heap.size (.slice a L c) (Dm.bytes x)) ∧ Below w2.heap.size w2 w' :=
    hC3.mono fun e w' ⟨h, hb⟩ => ⟨by unfold Putted at h; rwa [if_pos hm, if_pos h8, hL] at h, hb⟩
  have HM := Lib.hid hm; have H8 := Lib.hid h8; have HLx := Lib.hid hL; have HZ := Lib.hid hzb
  clear hC3 hm h8 hL hzb
  have HL8 : L ≤ 8192 := by have h1 := H8.out; have h2 := HLx.out; omega
  go_wp2_with fail
  refine hC3'.mono ?_; rintro e w3 ⟨⟨a3, c3, rfl, o3⟩, hb⟩
  have hB3 := HB2.out.trans (hb.mono HB2.out.size)
  have q3 := trip_stp Q2.out hb
  have HB3 := Lib.hid hB3; have Q3 := Lib.hid q3
  have rb : Row .u8 w3 (.slice a3 L c3) (Dm.bytes x) := Row.of_bytes o3 (HP.out.bytes (by have h9 := HM.out; rw [Dm.may_form] at h9; simp only [Bool.and_eq_true] at h9; exact h9.1))
  have hL2 : 2 ≤ L := by have h1 := wt_len x; rw [Dm.wt_eq, HLx.out] at h1; omega
  have hLc : L ≤ c3 := by obtain ⟨_, _, e', hc, _⟩ := rb; cases e'; rw [HZ.out, HLx.out] at hc; exact hc
  obtain ⟨b3, o3', rfl, -, -⟩ := rb.cellAt 0 (by rw [HZ.out, HLx.out]; omega)
  have RB := Lib.hid rb
  clear hC3' hb hB3 q3 o3 rb c0 c1' c2'
  obtain ⟨n, hn⟩ : ∃ n, q % L = n := ⟨_, rfl⟩
  have hnL : n < L := by rw [← hn]; exact Nat.mod_lt _ (by omega)
  have hrem : Int.tmod (q : Int) (L : Int) = (n : Int) := by rw [Int.tmod_eq_emod_of_nonneg (by omega), ← hn]; rfl
  have rt := Row.take RB.out n (by rw [HZ.out, HLx.out]; omega)
  have hC4 := Get_none _ _ 70 w3 (HK.out.below HB3.out) rt (by rw [List.length_take, HZ.out, HLx.out]; omega) (cut_get HM.out H8.out (by rw [HLx.out]; exact hnL))
  have RT := Lib.hid rt
  have l2 : ¬ (L : Int) < 2 := by omega
  have g1 : (0 : Int) ≤ (n : Int) := by omega
  have g2 : (n : Int) ≤ (c3 : Int) := by omega
  have g3 : ¬ c3 = 0 := by omega
  have L0 : ¬ (L : Int) = 0 := by omega
  have HQ := Lib.hid hn
  clear rt hn
  go_wp2_with fail
  refine hC4.mono ?_; rintro e w4 ⟨rfl, hb⟩
  have hB4 := (HB3.out.trans (hb.mono HB3.out.size)).alloc (Nat.le_trans HB3.out.size hb.size) (.cells #[.int .i64 0, .slice none 0 0, .slice none 0 0] 25)
  have hb34 := hb.alloc hb.size (.cells #[.int .i64 0, .slice none 0 0, .slice none 0 0] 25)
  have HB4 := Lib.hid hB4; have HB34 := Lib.hid hb34
  clear hC4 hb hB4 hb34
  by_cases hn0 : n = 0
  · have hn0' : (n : Int) = 0 := by omega
    go_wp2_with fail
    go_ret
    exact ⟨rfl, HB4.out⟩
  by_cases hn7 : (127 : Int) < (n : Int)
  · have hn0' : ¬ (n : Int) = 0 := by omega
    go_wp2_with fail
    go_ret
    exact ⟨rfl, HB4.out⟩
  have hn0' : ((n : Int) == 0) = false := beq_eq_false_iff_ne.2 (by omega)
  have ew : IntKind.u8.wrap (n : Int) = (n : Int) := by rw [IntKind.wrap_u8]; omega
  have hN : (w4.alloc (.cells #[.int .i64 0, .slice none 0 0, .slice none 0 0] 25)).heap.size = w4.heap.size + 1 := World.size_alloc _ _
  have o0 := World.ownsRow_lit (base := (w4.alloc (.cells #[.int .i64 0, .slice none 0 0, .slice none 0 0] 25)).heap.size) (e := 5) (size := 1) (w4.alloc (.cells #[.int .i64 0, .slice none 0 0, .slice none 0 0] 25)) #[.int .u8 48, .int .u8 n] 2 (Nat.le_refl _) (by unfold maxLen; omega) rfl
  have hb6 := (Below.refl _ w4).alloc (Nat.le_refl _) (.cells #[.int .i64 0, .slice none 0 0, .slice none 0 0] 25)
  have hb7 := hb6.alloc hb6.size (.cells #[.int .u8 48, .int .u8 n] 5)
  have hs7 : w4.heap.size + 1 ≤ ((w4.alloc (.cells #[.int .i64 0, .slice none 0 0, .slice none 0 0] 25)).alloc (.cells #[.int .u8 48, .int .u8 n] 5)).heap.size := by simp
  rw [hN] at o0
  have r7 := (RT.out.below (HB34.out.alloc HB34.out.size (.cells #[.int .u8 48, .int .u8 n] 5)))
  have hB7 := HB4.out.alloc HB4.out.size (.cells #[.int .u8 48, .int .u8 n] 5)
  have OO := Lib.hid (show OwnB _ (w4.heap.size + 1) (.slice (some ⟨w4.heap.size + 1, 0, none⟩) 2 2) [48, (n : Int)] from o0)
  have HB7 := Lib.hid hb7; have HS7 := Lib.hid hs7; have R7 := Lib.hid r7; have HBB := Lib.hid hB7
  clear hN o0 hb6 hb7 hs7 r7 hB7
  go_wp2_with (first
    | (at_builtin; refine wpList_plain rfl fun Kx hKx => ?_; refine wp_app (.tmp 54) (.tmp 57) rfl (w4.heap.size + 1) HS7.out _ [48, (n : Int)] rfl OO.out _ ((Dm.bytes x).take n) R7.out rfl (by rw [List.length_take, HZ.out, HLx.out]; simp; omega) ?_; intro u6 w6 ap6
       have hba := ap6.below OO.out HS7.out
       have AP := Lib.hid ap6.own; have HBA := Lib.hid hba; refine hKx _ _ ?_; clear ap6 hba)
    | fail)
  have hB8 : Below w.heap.size w w6 := HBB.out.trans (HBA.out.mono (by have := HB4.out.size; simp at this; omega))
  have r8 := Row.of_bytes AP.out (fun z hz => by
    rcases List.mem_append.1 hz with hz | hz
    · simp only [List.mem_cons, List.not_mem_nil, or_false] at hz
      unfold byte
      rcases hz with rfl | rfl <;> omega
    · exact RB.out.all_byte z (List.mem_of_mem_take hz))
  have hC8 := Get_none u6 _ 71 w6 (HK.out.below hB8) r8 (by rw [List.length_append, List.length_take, HZ.out, HLx.out]; simp; omega) (seq_get HM.out H8.out (by rw [HLx.out]; exact hnL) (by omega) (by omega))
  refine hC8.mono ?_; rintro e w7 ⟨rfl, hb⟩
  have hB9 := (hB8.trans (hb.mono hB8.size)).alloc (Nat.le_trans hB8.size hb.size) (.cells #[.int .i64 0, .slice none 0 0, .slice none 0 0] 25)
  clear hC8 hb r8 hB8
  go_wp2_with fail
  go_ret
  exact ⟨rfl, hB9⟩
end Go.Proofs.YtpmiihmhfagfoaaDoor
