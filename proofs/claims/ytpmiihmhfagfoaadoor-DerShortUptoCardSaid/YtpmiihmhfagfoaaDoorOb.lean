/-
  The walk of DerBack: what is put is got.
-/
import Derived.Test.YtpmiihmhfagfoaaDoorEi
import Derived.Test.YtpmiihmhfagfoaaDoorEw
import Derived.Test.YtpmiihmhfagfoaaDoorOo
namespace Go.Proofs.YtpmiihmhfagfoaaDoor
open Go.RowKit

/-- Bytes that are appended to, all else as it was in W0. -/
structure Acc (W0 w : World) (v : Value) (ms : List Int) : Prop where
  own : OwnB w W0.heap.size v ms
  bel : Below W0.heap.size W0 w
theorem Acc.app {W0 w w' : World} {v v' : Value} {ms l : List Int} (h : Acc W0 w v ms) (a : Appd w w' W0.heap.size v v' l) : Acc W0 w' v' l :=
  ⟨a.own, h.bel.trans (a.below h.own h.bel.size)⟩
theorem Acc.row {W0 w : World} {v u : Value} {ms l : List Int} (h : Acc W0 w v ms) (r : Row .u8 W0 u l) : Row .u8 w u l := r.below h.bel
theorem Acc.empty (W0 : World) : Acc W0 (W0.alloc (.cells #[] 5)) (.slice (some ⟨W0.heap.size, 0, none⟩) 0 0) [] :=
  ⟨owns_empty W0 W0.heap.size 5 (Nat.le_refl _), (Below.refl _ W0).alloc (Nat.le_refl _) _⟩
theorem back_get {x : Dm.It} (h t : List Int) (hm : Dm.may 8 x = true) (hl : Dm.len x ≤ 8192) : getAt ((h ++ Dm.bytes x) ++ t) (h.length : Int) = .ok (x, h.length + Dm.len x) := by
  have hb := Dm.bytes_len x
  unfold getAt
  rw [if_neg (by simp only [List.length_append, hb]; omega), Int.toNat_natCast, List.append_assoc, List.drop_left, Dm.get_bytes x 8 t hm hl]
  simp only [List.length_append, hb, Except.ok.injEq, Prod.mk.injEq, true_and]
  omega

set_option maxRecDepth 100000 in
set_option maxHeartbeats 4000000 in
theorem DerBack_any (v : Value) (x : Dm.It) (v1 : Value) (l1 : List Int) (v2 : Value) (l2 : List Int) (w : World) (hk : KindsAt w) (hx : ItV w v x) (hw : Dm.wt x ≤ 1048576) (h1 : Row .u8 w v1 l1) (h2 : Row .u8 w v2 l2) :
    Calls Tryd.prog 5 #[v, v1, v2] w fun e w' => e = .returned (.bool true) ∧ Below w.heap.size w w' := by
  obtain ⟨ab, cb, al, cl, rfl, hp⟩ := hx.parts
  obtain ⟨a1, c1, rfl⟩ := h1.shape l1.length rfl
  obtain ⟨a2, c2, rfl⟩ := h2.shape l2.length rfl
  obtain ⟨nb, hnb⟩ : ∃ n, x.b.length = n := ⟨_, rfl⟩
  obtain ⟨nl, hnl⟩ : ∃ n, x.l.length = n := ⟨_, rfl⟩
  obtain ⟨n1, hn1⟩ : ∃ n, l1.length = n := ⟨_, rfl⟩
  obtain ⟨n2, hn2⟩ : ∃ n, l2.length = n := ⟨_, rfl⟩
  rw [hnb, hnl] at hp ⊢
  rw [hn1] at h1 ⊢
  rw [hn2] at h2 ⊢
  have q0 := Trip.new w 25 (.int .i64 x.tag) (.slice ab nb cb) (.slice al nl cl)
  have hb0 := (Below.refl w.heap.size w).alloc (Nat.le_refl _) (.cells #[.int .i64 x.tag, .slice ab nb cb, .slice al nl cl] 25)
  have hC1 := live07_true _ (hk.below hb0)
  have HK := Lib.hid hk; have HP := Lib.hid hp; have H1 := Lib.hid h1; have H2 := Lib.hid h2; have HB0 := Lib.hid hb0; have Q0 := Lib.hid q0; have HN1 := Lib.hid hn1; have HN2 := Lib.hid hn2
  clear hk hp h1 h2 hb0 q0 hx hnb hnl hn1 hn2
  go_enter Tryd.func5, Tryd.ntmps5
  go_wp2_with fail
  refine hC1.mono ?_; rintro e w1 ⟨rfl, hb⟩
  have hB1 := HB0.out.trans (hb.mono HB0.out.size)
  have q1 := trip_stp Q0.out hb
  have c0 := q1.cell0; have c1' := q1.cell1; have c2' := q1.cell2
  have hC2 := Few_any x _ _ w1 (HP.out.below hB1) (by omega)
  have HB1 := Lib.hid hB1; have Q1 := Lib.hid q1
  clear hC1 hb hB1 q1
  by_cases hfew : Dm.wt x ≤ 9000
  case neg =>
    rw [decide_eq_false hfew] at hC2
    go_wp2_with fail
    refine hC2.mono ?_; rintro e w2 ⟨rfl, hb⟩
    clear hC2
    have hB2 := HB1.out.trans (hb.mono HB1.out.size)
    go_wp2_with fail
    go_ret
    exact ⟨rfl, hB2⟩
  rw [decide_eq_true hfew] at hC2
  by_cases hn1 : (200 : Int) < (n1 : Int)
  · go_wp2_with fail
    refine hC2.mono ?_; rintro e w2 ⟨rfl, hb⟩
    clear hC2
    have hB2 := HB1.out.trans (hb.mono HB1.out.size)
    go_wp2_with fail
    go_ret
    exact ⟨rfl, hB2⟩
  by_cases hn2 : (200 : Int) < (n2 : Int)
  · go_wp2_with fail
    refine hC2.mono ?_; rintro e w2 ⟨rfl, hb⟩
    clear hC2
    have hB2 := HB1.out.trans (hb.mono HB1.out.size)
    go_wp2_with fail
    go_ret
    exact ⟨rfl, hB2⟩
  go_wp2_with fail
  refine hC2.mono ?_; rintro e w2 ⟨rfl, hb⟩
  have hB2 := HB1.out.trans (hb.mono HB1.out.size)
  have q2 := trip_stp Q1.out hb
  have c0 := q2.cell0; have c1' := q2.cell1; have c2' := q2.cell2
  have hC3 := Put_any x (by omega) _ _ w2 (HK.out.below hB2) (HP.out.below hB2)
  have HB2 := Lib.hid hB2; have Q2 := Lib.hid q2
  clear hC2 hb hB2 q2
  by_cases hm : Dm.may 8 x = true
  case neg =>
    have hC3' := hC3.mono (fun e w' (h : Putted w2 w' x e ∧ _) => (⟨by have := h.1; unfold Putted at this; rwa [if_neg hm] at this, h.2⟩ : e = .returned (.tuple #[.slice none 0 0, .int .i64 1]) ∧ Below w2.heap.size w2 w'))
    clear hC3
    go_wp2_with fail
    refine hC3'.mono ?_; rintro e w3 ⟨rfl, hb⟩
    have hB3 := HB2.out.trans (hb.mono HB2.out.size)
    clear hC3'
    go_wp2_with fail
    go_ret
    exact ⟨rfl, hB3⟩
  by_cases h8 : Dm.len x ≤ 8192
  case neg =>
    have hC3' := hC3.mono (fun e w' (h : Putted w2 w' x e ∧ _) => (⟨by have := h.1; unfold Putted at this; rwa [if_pos hm, if_neg h8] at this, h.2⟩ : e = .returned (.tuple #[.slice none 0 0, .int .i64 2]) ∧ Below w2.heap.size w2 w'))
    clear hC3
    go_wp2_with fail
    refine hC3'.mono ?_; rintro e w3 ⟨rfl, hb⟩
    have hB3 := HB2.out.trans (hb.mono HB2.out.size)
    clear hC3'
    go_wp2_with fail
    go_ret
    exact ⟨rfl, hB3⟩
  have hzb := Dm.bytes_len x
  obtain ⟨L, hL⟩ : ∃ L, Dm.len x = L := ⟨_, rfl⟩
  have hC3' : Calls Tryd.prog 14 #[.agg #[.int .i64 x.tag, .slice ab nb cb, .slice al nl cl]] w2 fun e w' => (∃ a c, e = .returned (.tuple #[.slice a L c, .int .i64 0]) ∧ OwnB w' w2.heap.size (.slice a L c) (Dm.bytes x)) ∧ Below w2.heap.size w2 w' :=
    hC3.mono fun e w' ⟨h, hb⟩ => ⟨by unfold Putted at h; rwa [if_pos hm, if_pos h8, hL] at h, hb⟩
  have HM := Lib.hid hm; have H8 := Lib.hid h8; have HLx := Lib.hid hL; have HZ := Lib.hid hzb
  clear hC3 hm h8 hL hzb
  have HL8 : L ≤ 8192 := by have h1 := H8.out; have h2 := HLx.out; omega
  go_wp2_with fail
  refine hC3'.mono ?_; rintro e w3 ⟨⟨a3, c3, rfl, o3⟩, hb⟩
  have hB3 := HB2.out.trans (hb.mono HB2.out.size)
  have q3 := trip_stp Q2.out hb
  have HB3 := Lib.hid hB3; have Q3 := Lib.hid q3
  have A0 := Lib.hid (Acc.empty w3)
  have rb : Row .u8 w3 (.slice a3 L c3) (Dm.bytes x) := Row.of_bytes o3 (HP.out.bytes (by have h9 := HM.out; rw [Dm.may_form] at h9; simp only [Bool.and_eq_true] at h9; exact h9.1))
  have RB := Lib.hid rb
  clear hC3' hb hB3 q3 o3 rb c0 c1' c2'
  have r1 := A0.out.row (H1.out.below HB3.out)
  go_wp2_with (first
    | (at_builtin; refine wpList_plain rfl fun Kx hKx => ?_; refine wp_app (.tmp 38) (.tmp 39) rfl w3.heap.size A0.out.bel.size _ [] rfl A0.out.own _ l1 r1 rfl (by rw [HN1.out]; simp; omega) ?_; intro u4 w4 ap4
       have A1 := Lib.hid (A0.out.app ap4); refine hKx _ _ ?_; clear ap4)
    | (at_builtin; refine wpList_plain rfl fun Kx hKx => ?_; refine wp_app (.tmp 41) (.tmp 42) rfl w3.heap.size A1.out.bel.size _ ([] ++ l1) rfl A1.out.own _ (Dm.bytes x) (A1.out.row RB.out) rfl (by rw [HZ.out, HLx.out]; simp only [List.length_append, List.length_nil, HN1.out]; omega) ?_; intro u5 w5 ap5
       have A2 := Lib.hid (A1.out.app ap5); refine hKx _ _ ?_; clear ap5)
    | (at_builtin; refine wpList_plain rfl fun Kx hKx => ?_; refine wp_app (.tmp 44) (.tmp 45) rfl w3.heap.size A2.out.bel.size _ (([] ++ l1) ++ Dm.bytes x) rfl A2.out.own _ l2 (A2.out.row (H2.out.below HB3.out)) rfl (by simp only [List.length_append, List.length_nil, HN1.out, HN2.out, HZ.out, HLx.out]; omega) ?_; intro u6 w6 ap6
       have A3 := Lib.hid (A2.out.app ap6); refine hKx _ _ ?_; clear ap6))
  have hall := Row.of_bytes A3.out.own (fun z hz => by
    simp only [List.nil_append, List.mem_append] at hz
    rcases hz with (hz | hz) | hz
    · exact H1.out.all_byte z hz
    · exact RB.out.all_byte z hz
    · exact H2.out.all_byte z hz)
  rw [List.nil_append] at hall
  have hlen : ((l1 ++ Dm.bytes x) ++ l2).length = n1 + L + n2 := by simp only [List.length_append, HN1.out, HN2.out, HZ.out, HLx.out]
  obtain ⟨a6, c6, rfl⟩ := hall.shape _ hlen
  have hB6 := HB3.out.trans (A3.out.bel.mono HB3.out.size)
  have hg := back_get (x := x) l1 l2 HM.out H8.out
  rw [HN1.out, HLx.out] at hg
  have hC6 := Get_any _ _ (n1 : Int) w6 (HK.out.below hB6) hall (by rw [hlen]; omega)
  rw [hg] at hC6
  have q6 := trip_stp Q3.out A3.out.bel
  have HB6 := Lib.hid hB6; have Q6 := Lib.hid q6
  clear hall hlen hB6 hg q6 r1
  go_wp2_with fail
  refine hC6.mono ?_; rintro e w7 ⟨hG, hb⟩
  obtain ⟨ab7, cb7, al7, cl7, rfl, ho⟩ := hG
  have hB7 := HB6.out.trans (hb.mono HB6.out.size)
  have q7 := (trip_stp Q6.out hb).alloc (.cells #[.int .i64 x.tag, .slice ab7 x.b.length cb7, .slice al7 x.l.length cl7] 25)
  have hC7 := Same_any x x (w7.alloc (.cells #[.int .i64 x.tag, .slice ab7 x.b.length cb7, .slice al7 x.l.length cl7] 25)) _ _ _ _ ((HP.out.below hB7).alloc _) (ho.it.alloc _)
  rw [(Dm.eqIt_iff x x).2 rfl] at hC7
  have hB8 := hB7.alloc hB7.size (.cells #[.int .i64 x.tag, .slice ab7 x.b.length cb7, .slice al7 x.l.length cl7] 25)
  have HB8 := Lib.hid hB8
  have c0 := q7.cell0; have c1' := q7.cell1; have c2' := q7.cell2
  have es : IntKind.i64.wrap ((n1 : Int) + (L : Int)) = (n1 : Int) + (L : Int) := IntWalk.i64_in _ (by omega)
  have ec : ((n1 + L : Nat) : Int) = (n1 : Int) + (L : Int) := by omega
  clear hC6 hb hB7 q7 ho hB8
  go_wp2_with fail
  refine hC7.mono ?_; rintro e w8 ⟨rfl, hb⟩
  have hB9 := HB8.out.trans (hb.mono HB8.out.size)
  clear hC7 hb
  go_wp2_with fail
  go_ret
  exact ⟨rfl, hB9⟩
end Go.Proofs.YtpmiihmhfagfoaaDoor
