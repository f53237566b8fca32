/-
  The texts Qa Op Qb Og Qc Qd Qg Qe in one. (Merged by wip/lay10m.py.)
-/
import Derived.Test.YtfdchdnkblmijaaGreatDoorYc
import Derived.Test.YtfdchdnkblmijaaGreatDoorYg
import Derived.Test.YtfdchdnkblmijaaGreatDoorYd
import Derived.Test.YtfdchdnkblmijaaGreatDoorYe
import Derived.Maps.AppendAt
import Derived.Deep.CutBlock
import Derived.BigRegion

section
namespace Go.Proofs.YtfdchdnkblmijaaGreatDoor
open Go.RowKit

theorem right09_any (n : Int) (w : World) : Calls Tryz.prog 83 #[.int .i64 n] w fun e w' => e = .returned (.bool (decide (Sm.right n))) ∧ w = w' := by
  by_cases h0 : 0 ≤ n
  · by_cases h1 : n ≤ 1099511627776
    · go_enter Tryz.func83, Tryz.ntmps83
      go_wp2
      go_ret
      exact ⟨ret_bool (decide_eq_true ⟨by omega, by omega⟩).symm, rfl⟩
    · go_enter Tryz.func83, Tryz.ntmps83
      go_wp2
      go_ret
      exact ⟨ret_bool (decide_eq_false (fun h => by have := h.1; have := h.2; omega)).symm, rfl⟩
  · go_enter Tryz.func83, Tryz.ntmps83
    go_wp2
    go_ret
    exact ⟨ret_bool (decide_eq_false (fun h => by have := h.1; have := h.2; omega)).symm, rfl⟩

theorem isDay10_any (n : Int) (w : World) : Calls Tryz.prog 57 #[.int .i64 n] w fun e w' => e = .returned (.bool (decide (Cm.dated n))) ∧ w = w' := by
  by_cases h0 : 0 ≤ n
  · by_cases h1 : n ≤ 68719476735
    · go_enter Tryz.func57, Tryz.ntmps57
      go_wp2
      go_ret
      exact ⟨ret_bool (decide_eq_true (show Cm.dated n from ⟨by omega, by omega⟩)).symm, rfl⟩
    · go_enter Tryz.func57, Tryz.ntmps57
      go_wp2
      go_ret
      exact ⟨ret_bool (decide_eq_false (fun h => by have := h.1; have := h.2; omega)).symm, rfl⟩
  · go_enter Tryz.func57, Tryz.ntmps57
    go_wp2
    go_ret
    exact ⟨ret_bool (decide_eq_false (fun h => by have := h.1; have := h.2; omega)).symm, rfl⟩

set_option maxHeartbeats 1000000 in
theorem Check09_any (s : Sm.Sv) (vb : Value) (w : World) (h : Row .u8 w vb s.b) :
    Calls Tryz.prog 58 #[.agg #[.int .i64 s.bits, .int .i64 s.hashes, .int .i64 s.salt, vb]] w fun e w' => (∃ c : Int, e = .returned (.int .i64 c) ∧ ((Sm.ok s ∧ c = 0) ∨ (¬ Sm.ok s ∧ c = 1))) ∧ Below w.heap.size w w' := by
  obtain ⟨bits', hashes, salt, b⟩ := s
  obtain ⟨a, c, rfl⟩ := h.shape b.length rfl
  dsimp only
  clear h
  by_cases h1 : bits' < 8
  · go_enter Tryz.func58, Tryz.ntmps58
    go_wp2_with fail
    go_ret
    exact ⟨⟨1, rfl, .inr ⟨fun h => by have := h.1; have := h.2.1; have := h.2.2.2.1; have := h.2.2.2.2.1; dsimp only at *; omega, rfl⟩⟩, (Below.refl _ _).alloc (Nat.le_refl _) _⟩
  by_cases h2 : 8192 < bits'
  · go_enter Tryz.func58, Tryz.ntmps58
    go_wp2_with fail
    go_ret
    exact ⟨⟨1, rfl, .inr ⟨fun h => by have := h.1; have := h.2.1; have := h.2.2.2.1; have := h.2.2.2.2.1; dsimp only at *; omega, rfl⟩⟩, (Below.refl _ _).alloc (Nat.le_refl _) _⟩
  have e7 : Int.tmod bits' 8 = bits' % 8 := Int.tmod_eq_emod_of_nonneg (by omega)
  have e8 : Int.tdiv bits' 8 = bits' / 8 := Int.tdiv_eq_ediv_of_nonneg (by omega)
  by_cases h3 : bits' % 8 = 0
  case neg =>
    go_enter Tryz.func58, Tryz.ntmps58
    go_wp2_with fail
    go_ret
    exact ⟨⟨1, rfl, .inr ⟨fun h => h3 h.2.2.1, rfl⟩⟩, (Below.refl _ _).alloc (Nat.le_refl _) _⟩
  by_cases h4 : hashes < 1
  · go_enter Tryz.func58, Tryz.ntmps58
    go_wp2_with fail
    go_ret
    exact ⟨⟨1, rfl, .inr ⟨fun h => by have := h.1; have := h.2.1; have := h.2.2.2.1; have := h.2.2.2.2.1; dsimp only at *; omega, rfl⟩⟩, (Below.refl _ _).alloc (Nat.le_refl _) _⟩
  by_cases h5 : 8 < hashes
  · go_enter Tryz.func58, Tryz.ntmps58
    go_wp2_with fail
    go_ret
    exact ⟨⟨1, rfl, .inr ⟨fun h => by have := h.1; have := h.2.1; have := h.2.2.2.1; have := h.2.2.2.2.1; dsimp only at *; omega, rfl⟩⟩, (Below.refl _ _).alloc (Nat.le_refl _) _⟩
  by_cases h6 : Sm.right salt
  case neg =>
    have hd := decide_eq_false h6
    go_enter Tryz.func58, Tryz.ntmps58
    go_wp2_with fail
    refine (right09_any salt _).mono ?_; rintro e w' ⟨rfl, rfl⟩
    rw [hd]
    go_wp2_with fail
    go_ret
    exact ⟨⟨1, rfl, .inr ⟨fun h => h6 h.2.2.2.2.2.1, rfl⟩⟩, (Below.refl _ _).alloc (Nat.le_refl _) _⟩
  have hd := decide_eq_true h6
  have H6 := Lib.hid h6
  clear h6
  by_cases h7 : (b.length : Int) = bits' / 8
  · go_enter Tryz.func58, Tryz.ntmps58
    go_wp2_with fail
    refine (right09_any salt _).mono ?_; rintro e w' ⟨rfl, rfl⟩
    rw [hd]
    go_wp2_with fail
    go_ret
    exact ⟨⟨0, rfl, .inl ⟨⟨by omega, by omega, h3, by omega, by omega, H6.out, h7⟩, rfl⟩⟩, (Below.refl _ _).alloc (Nat.le_refl _) _⟩
  · go_enter Tryz.func58, Tryz.ntmps58
    go_wp2_with fail
    refine (right09_any salt _).mono ?_; rintro e w' ⟨rfl, rfl⟩
    rw [hd]
    go_wp2_with fail
    go_ret
    exact ⟨⟨1, rfl, .inr ⟨fun h => h7 h.2.2.2.2.2.2, rfl⟩⟩, (Below.refl _ _).alloc (Nat.le_refl _) _⟩


theorem Check09_yes (s : Sm.Sv) (vb : Value) (w : World) (h : Row .u8 w vb s.b) (hok : Sm.ok s) :
    Calls Tryz.prog 58 #[.agg #[.int .i64 s.bits, .int .i64 s.hashes, .int .i64 s.salt, vb]] w fun e w' => e = .returned (.int .i64 0) ∧ Below w.heap.size w w' :=
  (Check09_any s vb w h).mono fun _ _ ⟨⟨_, he, hc⟩, hb⟩ => ⟨by rcases hc with hc | hc; rw [he, hc.2]; exact absurd hok hc.1, hb⟩
theorem Check09_not (s : Sm.Sv) (vb : Value) (w : World) (h : Row .u8 w vb s.b) (hok : ¬ Sm.ok s) :
    Calls Tryz.prog 58 #[.agg #[.int .i64 s.bits, .int .i64 s.hashes, .int .i64 s.salt, vb]] w fun e w' => e = .returned (.int .i64 1) ∧ Below w.heap.size w w' :=
  (Check09_any s vb w h).mono fun _ _ ⟨⟨_, he, hc⟩, hb⟩ => ⟨by rcases hc with hc | hc; exact absurd hc.1 hok; rw [he, hc.2], hb⟩

set_option maxRecDepth 100000 in
set_option maxHeartbeats 4000000 in
theorem Check10_any (day : Int) (vl : Value) (ls : List Sm.Sv) (w : World) (h : Svs w vl ls) (hl : ls.length ≤ 1000000) :
    Calls Tryz.prog 21 #[.agg #[.int .i64 day, vl]] w fun e w' => e = .returned (.int .i64 (Cm.chk day ls)) ∧ Below w.heap.size w w' := by
  obtain ⟨a, c, rfl⟩ := h.shape
  obtain ⟨Z, hZ⟩ : ∃ Z, Cm.chk day ls = Z := ⟨_, rfl⟩
  rw [hZ]
  have HZ := Lib.hid hZ
  clear hZ
  have q0 := Duo.new w 24 (.int .i64 day) (.slice a ls.length c)
  have hb0 := (Below.refl w.heap.size w).alloc (Nat.le_refl _) (.cells #[.int .i64 day, .slice a ls.length c] 24)
  have r0 := h.alloc (.cells #[.int .i64 day, .slice a ls.length c] 24)
  obtain ⟨W, hW⟩ : ∃ W, w.alloc (.cells #[.int .i64 day, .slice a ls.length c] 24) = W := ⟨_, rfl⟩
  rw [hW] at q0 hb0 r0
  have R0 := Lib.hid r0; have HW := Lib.hid hW; have HB0 := Lib.hid hb0; have Q0 := Lib.hid q0
  clear h r0 hW hb0 q0
  go_enter Tryz.func21, Tryz.ntmps21
  by_cases h16 : 16 < ls.length
  · obtain rfl : Z = 2 := by rw [← HZ.out]; unfold Cm.chk; rw [if_pos h16]
    have h16' : (16 : Int) < (ls.length : Int) := by omega
    clear h16
    go_wp2_with fail
    (try rw [HW.out])
    go_ret
    exact ⟨rfl, HB0.out⟩
  have h16' : ¬ (16 : Int) < (ls.length : Int) := by omega
  by_cases hd : Cm.dated day
  case neg =>
    obtain rfl : Z = 1 := by rw [← HZ.out]; unfold Cm.chk; rw [if_neg h16, if_neg (fun h => hd h.2.1)]
    have hdt := isDay10_any day W
    rw [decide_eq_false hd] at hdt
    clear hd h16
    go_wp2_with fail
    rw [HW.out]
    refine hdt.mono ?_; rintro e w1 ⟨rfl, rfl⟩
    go_wp2_with fail
    go_ret
    exact ⟨rfl, HB0.out⟩
  have hdt := isDay10_any day W
  rw [decide_eq_true hd] at hdt
  have HD := Lib.hid hd
  have H16 := Lib.hid h16
  clear hd h16
  go_wp2_with fail
  rw [HW.out]
  refine hdt.mono ?_; rintro e w1 ⟨rfl, rfl⟩
  clear hdt h16'
  go_wp2_with fail
  go_loopw [3] (fun i wr => ∃ k : Nat, i = .int .i64 k ∧ k ≤ ls.length ∧ GoodTo day ls k ∧ Below W.heap.size W wr) (fun i _ => ls.length - (intOf i).toNat)
  case atStart => exact ⟨0, rfl, Nat.zero_le _, fun i hi => absurd hi (Nat.not_lt_zero _), Below.refl _ _⟩
  case round =>
    obtain ⟨k, rfl, hk, hG, hb⟩ := hrel
    have HG := Lib.hid hG
    have k0 : (0 : Int) ≤ (k : Int) := by omega
    have e1 : IntKind.i64.wrap ((k : Int) + 1) = (k : Int) + 1 := IntWalk.i64_in _ (by have := H16.out; omega)
    have qr := Q0.out.stp hb
    have hBr := HB0.out.trans (hb.mono HB0.out.size)
    clear hG
    have c0 := qr.cell0; have c1 := qr.cell1; have lt := qr.lt
    by_cases hlt : k < ls.length
    case neg =>
      obtain rfl : k = ls.length := by omega
      obtain rfl : Z = 0 := by rw [← HZ.out]; unfold Cm.chk; rw [if_neg H16.out, if_pos ⟨by have := H16.out; omega, HD.out, HG.out⟩]
      clear hlt
      go_wp2_with fail
      go_ret
      exact ⟨rfl, hBr⟩
    have hd0 := HD.out
    have e2 : IntKind.i64.wrap (16 * day) = 16 * day := IntWalk.i64_in _ (by have := hd0.1; have := hd0.2; omega)
    have e3 : IntKind.i64.wrap (16 * day + (k : Int)) = 16 * day + k := IntWalk.i64_in _ (by have := hd0.1; have := hd0.2; have := H16.out; omega)
    obtain ⟨_, _, e', _, hcm, _, h5⟩ := R0.out.below hb
    cases e'
    obtain ⟨b, off, rfl, hbl, hc⟩ := h5 (by rintro rfl; simp at hlt)
    obtain ⟨vb, rb, x0, x1, x2, x3⟩ := hc k hlt
    obtain ⟨s, hs⟩ : ∃ s, ls[k]?.getD Cm.nil = s := ⟨_, rfl⟩
    rw [hs] at rb x0 x1 x2
    have HS := Lib.hid hs
    have k1 : (k : Int) < (ls.length : Int) := by omega
    obtain ⟨sb, sh, ss, sl⟩ := s
    dsimp only at rb x0 x1 x2
    obtain ⟨av, cv, rfl⟩ := rb.shape sl.length rfl
    clear hc h5 hs hd0
    have qG := Quad.new wr 41 (.int .i64 sb) (.int .i64 sh) (.int .i64 ss) (.slice av sl.length cv)
    have qV := qr.alloc (.cells #[.int .i64 sb, .int .i64 sh, .int .i64 ss, .slice av sl.length cv] 41)
    have hV := hb.alloc hb.size (.cells #[.int .i64 sb, .int .i64 sh, .int .i64 ss, .slice av sl.length cv] 41)
    have hBV := hBr.alloc hBr.size (.cells #[.int .i64 sb, .int .i64 sh, .int .i64 ss, .slice av sl.length cv] 41)
    have rV := rb.alloc (.cells #[.int .i64 sb, .int .i64 sh, .int .i64 ss, .slice av sl.length cv] 41)
    by_cases k5 : Sm.ok ⟨sb, sh, ss, sl⟩
    case neg =>
      have hno := goodTo_not (day := day) hlt (fun h => k5 (by have := h.1; rw [HS.out] at this; exact this)) (by have := H16.out; omega)
      rw [HZ.out] at hno
      subst hno
      have hC := Check09_not ⟨sb, sh, ss, sl⟩ _ _ rV k5
      have HBV := Lib.hid hBV
      clear k5 rV hV qV hBV rb
      go_wp2_with fail
      refine hC.mono ?_; rintro e w3 ⟨rfl, hb3⟩
      have qG3 := qG.stp hb3
      have HB3 := Lib.hid (HBV.out.trans (hb3.mono HBV.out.size))
      clear hC hb3 c0 c1 x0 x1 x2 x3
      go_wp2_with fail
      go_ret
      exact ⟨rfl, HB3.out⟩
    have hC := Check09_yes ⟨sb, sh, ss, sl⟩ _ _ rV k5
    have HBV := Lib.hid hBV; have HV := Lib.hid hV; have K5 := Lib.hid k5
    clear k5 rV hV hBV rb
    go_wp2_with fail
    refine hC.mono ?_; rintro e w3 ⟨rfl, hb3⟩
    have qG3 := qG.stp hb3
    have qV3 := qV.stp hb3
    have HB3 := Lib.hid (HBV.out.trans (hb3.mono HBV.out.size))
    have HW3 := Lib.hid (HV.out.trans (hb3.mono HV.out.size))
    clear hC hb3 c0 c1 x0 x1 x2 x3 qG qV qr lt
    have c0 := qV3.cell0; have c1 := qV3.cell1; have lt := qV3.lt
    have g1 := qG3.cell1; have g2 := qG3.cell2; have g3 := qG3.lt
    by_cases k3 : sh = 3
    case neg =>
      have hno := goodTo_not (day := day) hlt (fun h => k3 (by have := h.2.1; rw [HS.out] at this; exact this)) (by have := H16.out; omega)
      rw [HZ.out] at hno
      subst hno
      go_wp2_with fail
      go_ret
      exact ⟨rfl, HB3.out⟩
    subst k3
    by_cases k4 : ss = 16 * day + k
    case neg =>
      have hno := goodTo_not (day := day) hlt (fun h => k4 (by have := h.2.2; rw [HS.out] at this; exact this)) (by have := H16.out; omega)
      rw [HZ.out] at hno
      subst hno
      go_wp2_with fail
      go_ret
      exact ⟨rfl, HB3.out⟩
    subst k4
    have hyes : Cm.goodAt day k (ls[k]?.getD Cm.nil) := by rw [HS.out]; exact ⟨K5.out, rfl, rfl⟩
    have HY := Lib.hid hyes
    clear hyes
    go_wp2_with fail
    go_roundw
    case rel =>
      refine ⟨k + 1, by go_num, by omega, fun i hi => ?_, HW3.out⟩
      rcases Nat.lt_or_ge i k with h | h
      · exact HG.out i h
      · obtain rfl : i = k := by omega
        exact HY.out
    case measure => simp [intOf]; omega
end Go.Proofs.YtfdchdnkblmijaaGreatDoor
end

section
namespace Go.Proofs.YtfdchdnkblmijaaGreatDoor
open Go.RowKit

theorem form_may {x : Dm.It} (h : Dm.may 8 x = true) : Dm.form x = true := by rw [Dm.may_form] at h; simp only [Bool.and_eq_true] at h; exact h.1
set_option maxRecDepth 100000 in
set_option maxHeartbeats 2000000 in
theorem rPut_any (x : Dm.It) (hw : Dm.wt x ≤ 20000) (vb vl : Value) (w : World) (hp : ItP w vb vl x) :
    Calls Tryz.prog 24 #[.agg #[.int .i64 x.tag, vb, vl]] w fun e w' => Putted w w' x e ∧ Below w.heap.size w w' := by
  obtain ⟨ab, cb, rfl⟩ := hp.2.1.shape x.b.length rfl
  obtain ⟨al, cl, rfl⟩ := hp.2.2.shape
  have hl2 := len_le' x
  have hb0 := (Below.refl w.heap.size w).alloc (Nat.le_refl _) (.cells #[.int .i64 x.tag, .slice ab x.b.length cb, .slice al x.l.length cl] 45)
  have q0 := Trip.new w 45 (.int .i64 x.tag) (.slice ab x.b.length cb) (.slice al x.l.length cl)
  have hC := rMay_any x _ _ _ (hp.alloc (.cells #[.int .i64 x.tag, .slice ab x.b.length cb, .slice al x.l.length cl] 45)) (by omega)
  have HB0 := Lib.hid hb0; have Q0 := Lib.hid q0; have HP := Lib.hid hp
  clear hb0 q0 hp
  obtain ⟨M, hM⟩ : ∃ M, Dm.may 8 x = M := ⟨_, rfl⟩
  rw [hM] at hC
  have HM := Lib.hid hM
  clear hM
  go_enter Tryz.func24, Tryz.ntmps24
  go_wp2_with fail
  refine hC.mono ?_; rintro e w1 ⟨rfl, hb⟩
  have hB1 := HB0.out.trans (hb.mono HB0.out.size)
  have q1 := trip_stp Q0.out hb
  have c0 := q1.cell0; have c1 := q1.cell1; have c2 := q1.cell2
  have HB1 := Lib.hid hB1
  clear hC hb q1 hB1
  cases M with
  | false =>
    go_wp2_with fail
    go_ret2
    exact ⟨by unfold Putted; rw [if_neg (by rw [HM.out]; decide)]; rfl, HB1.out⟩
  | true =>
    have hC2 := Bytes_any x w1 _ _ (HP.out.below HB1.out) (HP.out.bytes (form_may HM.out)) (by omega)
    have hbl := Dm.bytes_len x
    have HBL := Lib.hid hbl
    clear hbl
    go_wp2_with fail
    refine hC2.mono ?_; rintro e w2 ⟨⟨v, rfl, own⟩, hb⟩
    have hB2 := HB1.out.trans (hb.mono HB1.out.size)
    have own' := owns_base own HB1.out.size
    have rr := Row.of_bytes own (HP.out.bytes (form_may HM.out))
    obtain ⟨a, c, rfl⟩ := rr.shape _ HBL.out
    have HO := Lib.hid own'; have HB2 := Lib.hid hB2
    clear hC2 own hb hB2 rr own'
    obtain ⟨L, hL⟩ : ∃ L, Dm.len x = L := ⟨_, rfl⟩
    rw [hL] at HO hl2 ⊢
    have HL := Lib.hid hL
    clear hL
    by_cases h8 : L ≤ 8192
    · have h8' : ¬ (8192 : Int) < (L : Int) := by omega
      go_wp2_with fail
      go_ret2
      exact ⟨by unfold Putted; rw [if_pos HM.out, HL.out, if_pos h8]; exact ⟨a, c, rfl, HO.out⟩, HB2.out⟩
    · have h8' : (8192 : Int) < (L : Int) := by omega
      go_wp2_with fail
      go_ret2
      exact ⟨by unfold Putted; rw [if_pos HM.out, HL.out, if_neg h8]; rfl, HB2.out⟩
def putL (x : Dm.It) : List Int := if Dm.may 8 x = true then (if Dm.len x ≤ 8192 then Dm.bytes x else []) else []
def putE (x : Dm.It) : Int := if Dm.may 8 x = true then (if Dm.len x ≤ 8192 then 0 else 2) else 1
end Go.Proofs.YtfdchdnkblmijaaGreatDoor
end

section
namespace Go.Proofs.YtfdchdnkblmijaaGreatDoor
open Go.RowKit

theorem item_wt2 {day : Int} {ls : List Sm.Sv} (h : Cm.good day ls) : Dm.wt (Cm.item day ls) ≤ 20000 := by
  have h1 := Cm.wts_oct (Cm.good_short h)
  have h2 := Cm.mul_le (m := 1024 + 5) h.1
  have h3 := Cm.wt_inI (Cm.day_range h.2.1)
  have h5 : Dm.wt (Cm.item day ls) = 2 + 0 + (Dm.wt (Cm.inI day) + Dm.wts (ls.map fun s => Cm.inO s.b)) := Dm.wt_eq _
  omega
set_option maxRecDepth 100000 in
set_option maxHeartbeats 4000000 in
theorem Put10_any (day : Int) (vl : Value) (ls : List Sm.Sv) (w : World) (hk : KindsAt w) (h : Svs w vl ls) (hl : ls.length ≤ 1000000) :
    Calls Tryz.prog 7 #[.agg #[.int .i64 day, vl]] w fun e w' => BytR w' e (Cm.putR day ls) ∧ Below w.heap.size w w' := by
  obtain ⟨a, c, rfl⟩ := h.shape
  obtain ⟨C, hC⟩ : ∃ C, w.heap.size = C := ⟨_, rfl⟩
  have q0 := Duo.new w 24 (.int .i64 day) (.slice a ls.length c)
  have hb0 := (Below.refl w.heap.size w).alloc (Nat.le_refl _) (.cells #[.int .i64 day, .slice a ls.length c] 24)
  have r0 := h.alloc (.cells #[.int .i64 day, .slice a ls.length c] 24)
  have k0 := hk.alloc (.cells #[.int .i64 day, .slice a ls.length c] 24)
  have hCk := Check10_any day _ ls _ r0 hl
  obtain ⟨W, hW⟩ : ∃ W, w.alloc (.cells #[.int .i64 day, .slice a ls.length c] 24) = W := ⟨_, rfl⟩
  rw [hW] at q0 hb0 r0 k0 hCk
  rw [hC] at q0
  obtain ⟨E, hE⟩ : ∃ E, Cm.chk day ls = E := ⟨_, rfl⟩
  obtain ⟨R, hR⟩ : ∃ R, Cm.putR day ls = R := ⟨_, rfl⟩
  rw [hE] at hCk
  rw [hR]
  have HW := Lib.hid hW; have HE := Lib.hid hE; have HR := Lib.hid hR; have HC := Lib.hid hC
  have R0 := Lib.hid r0; have K0 := Lib.hid k0; have HB0 := Lib.hid hb0; have Q0 := Lib.hid q0
  have c0 := q0.cell0; have c1 := q0.cell1
  clear hW hE hR hC r0 k0 hb0 q0 h hk
  by_cases h0 : E = 0
  case neg =>
    have hr : R = .error E := by rw [← HR.out]; unfold Cm.putR; rw [if_neg (by rw [HE.out]; exact h0), HE.out]
    have HRR := Lib.hid hr
    clear hr
    go_enter Tryz.func7, Tryz.ntmps7
    go_wp2_with fail
    rw [HW.out]
    (try rw [HC.out])
    (try go_wp2_with fail)
    refine hCk.mono ?_; rintro e w1 ⟨rfl, hb⟩
    have hB := HB0.out.trans (hb.mono HB0.out.size)
    clear hCk hb c0 c1
    go_wp2_with fail
    go_ret2
    rw [HRR.out]
    exact ⟨rfl, hB⟩
  subst h0
  have hr : R = if Dm.len (Cm.item day ls) ≤ 8192 then .ok (Dm.bytes (Cm.item day ls)) else .error 2 := by rw [← HR.out]; unfold Cm.putR; rw [if_pos HE.out]
  have HRR := Lib.hid hr
  clear hr
  go_enter Tryz.func7, Tryz.ntmps7
  go_wp2_with fail
  rw [HW.out]
  (try rw [HC.out])
  (try go_wp2_with fail)
  refine hCk.mono ?_; rintro e w1 ⟨rfl, hb⟩
  have hB1 := HB0.out.trans (hb.mono HB0.out.size)
  have q1 := Q0.out.stp hb
  have R1 := Lib.hid (R0.out.below hb); have K1 := Lib.hid (K0.out.below hb)
  have HB1 := Lib.hid hB1; have Q1 := Lib.hid q1
  clear hCk c0 c1 hB1
  have c0 := q1.cell0; have c1 := q1.cell1
  clear q1 hb
  have hdd := (good_of_chk HE.out).2.1
  have hI := rInt_mk day w1 (by have := hdd.1; omega) (by have := hdd.2; omega)
  clear hdd
  go_wp2_with fail
  refine hI.mono ?_; rintro e w2 ⟨⟨a5, c5, rfl, i5, p5⟩, hb⟩
  have o5 : Own w1.heap.size none w2 (.slice a5 (intB day).length c5) (.slice none 0 0) (.mk 2 (intB day) []) := Own.bytes (by decide) i5.2.1 (fun b o m c e _ => p5 b o m c e)
  clear i5 p5
  have hn2 : w1.heap.size ≤ w2.heap.size := hb.size
  obtain ⟨s1, s2⟩ := row_one hn2 o5
  have s3 : Below w1.heap.size w1 (w2.alloc (.cells #[.int .i64 2, .slice a5 (intB day).length c5, .slice none 0 0] 45)) := hb.alloc hb.size _
  have q2 := Q1.out.stp hb
  have q3 := (Q1.out.stp hb).alloc (.cells #[.int .i64 2, .slice a5 (intB day).length c5, .slice none 0 0] 45)
  obtain ⟨L0, hL0⟩ : ∃ L, w2.heap.size = L := ⟨_, rfl⟩
  obtain ⟨W3, hW3⟩ : ∃ W3, w2.alloc (.cells #[.int .i64 2, .slice a5 (intB day).length c5, .slice none 0 0] 45) = W3 := ⟨_, rfl⟩
  have hs3 : w1.heap.size ≤ W3.heap.size := by rw [← hW3]; simp; omega
  replace s1 : W3.ownsRow w1.heap.size 45 3 (.slice (some ⟨L0, 0, none⟩) 1 1) (itsK day ls 0).length [.int .i64 2, .slice a5 (intB day).length c5, .slice none 0 0] := by rw [← hW3, ← hL0]; exact s1
  replace s2 : Cells w1.heap.size (some L0) W3 [.int .i64 2, .slice a5 (intB day).length c5, .slice none 0 0] (itsK day ls 0) := by rw [← hW3, ← hL0]; exact s2
  rw [hW3] at s3 q3
  have S1 := Lib.hid s1; have S2 := Lib.hid s2; have S3 := Lib.hid s3; have HS3 := Lib.hid hs3; have HW3 := Lib.hid hW3; have HL0 := Lib.hid hL0
  clear hI hb hn2 s1 s2 s3 o5 c0 c1 hs3 hW3 hL0
  have c0 := q3.cell0; have c1 := q3.cell1
  have y0 := q2.cell0; have y1 := q2.cell1; have ly := q2.lt
  clear q3 q2
  go_wp2_with fail
  rw [HW3.out]
  (try rw [HL0.out])
  (try go_wp2_with fail)
  go_loopw [5, 6] (fun l i wr => ∃ (k : Nat) (xs : List Value), i = .int .i64 k ∧ k ≤ ls.length ∧ wr.ownsRow w1.heap.size 45 3 l (itsK day ls k).length xs ∧ Cells w1.heap.size l.ownBlock wr xs (itsK day ls k) ∧ Below w1.heap.size w1 wr ∧ w1.heap.size ≤ wr.heap.size) (fun _ i _ => ls.length - (intOf i).toNat)
  case atStart => exact ⟨0, _, rfl, Nat.zero_le _, S1.out, S2.out, S3.out, HS3.out⟩
  case round =>
    obtain ⟨k, xs, rfl, hk, ho, hc, hbw, hn⟩ := hrel
    have k0 : (0 : Int) ≤ (k : Int) := by omega
    have e1 : IntKind.i64.wrap ((k : Int) + 1) = (k : Int) + 1 := IntWalk.i64_in _ (by omega)
    obtain ⟨la, ln, lc, rfl⟩ := owns_slice ho
    clear c0 c1 y0 y1 ly
    have qr := Q1.out.stp hbw
    have c0 := qr.cell0; have c1 := qr.cell1; have ly := qr.lt
    clear qr
    by_cases hlt : k < ls.length
    · obtain ⟨_, _, e', _, hcm, _, h5⟩ := R1.out.below hbw
      cases e'
      obtain ⟨b, off, rfl, hbl, hcc⟩ := h5 (by rintro rfl; simp at hlt)
      obtain ⟨vb, rb, x0, x1, x2, x3⟩ := hcc k hlt
      have hys := itsK_succ (day := day) hlt
      obtain ⟨s, hs⟩ : ∃ s, ls[k]?.getD Cm.nil = s := ⟨_, rfl⟩
      rw [hs] at rb x0 x1 x2 hys
      have hshort : s.b.length ≤ 1000000 := by
        have := Cm.good_short (good_of_chk HE.out) s (by rw [← hs, List.getElem?_eq_getElem hlt]; exact List.getElem_mem _)
        omega
      have h16 := (good_of_chk HE.out).1
      have k1 : (k : Int) < (ls.length : Int) := by omega
      obtain ⟨sb, sh, ss, sl⟩ := s
      dsimp only at rb x0 x1 x2 hys hshort
      obtain ⟨av, cv, rfl⟩ := rb.shape sl.length rfl
      have hOc := rOct_mk _ sl _ rb (by omega)
      have HO := Lib.hid ho; have HCe := Lib.hid hc; have HBw := Lib.hid hbw; have HN := Lib.hid hn; have HYs := Lib.hid hys; have H16 := Lib.hid h16
      clear hcc h5 hs rb ho hc hbw hn hys hshort h16
      obtain ⟨j0, gi, gz0, gz1, gz2⟩ := info_parts info_item
      go_wp2_with fail
      refine hOc.mono ?_; rintro e w4 ⟨⟨ao, co, rfl, i4, p4⟩, hb4⟩
      have oo' : Own wr.heap.size none w4 (.slice ao sl.length co) (.slice none 0 0) (.mk 4 sl []) := Own.bytes (by decide) i4.2.1 (fun b o m c e _ => p4 b o m c e)
      have hV4 : Below wr.heap.size wr w4 := hb4
      clear i4 p4
      have ho4 := owns_keep HO.out hV4
      have HV4 := Lib.hid hV4; have OO := Lib.hid oo'; have HO4 := Lib.hid ho4
      clear hOc hb4 hV4 oo' ho4 x0 x1 x2 x3
      go_wp2_with (first
        | (at_builtin
           refine wpList_append_own_at _ rfl (.tmp 23) (.tmp 31) 43 rfl w1.heap.size 45 j0 (.agg #[.int .i64 0, .slice none 0 0, .slice none 0 0]) 3 56 Tryz.underlying43 gi gz0 gz1 gz2 rfl (by decide) (.slice la ln lc) (itsK day ls k).length xs rfl (HO4.out.alloc _) _ 1 1 [.int .i64 4, .slice ao sl.length co, .slice none 0 0] rfl rfl (cells_new3 w4 (.int .i64 4) (.slice ao sl.length co) (.slice none 0 0) 45) (by intro u hu; simp at hu; rcases hu with rfl | rfl | rfl <;> rfl) (by have := H16.out; have := itsK_len (day := day) hk; unfold maxLen; omega) (by have := H16.out; have := itsK_len (day := day) hk; omega) (by have := HN.out; have := HV4.out.size; simp; omega) ?_
           intro v' w5 own5 hgrow _ hat
           obtain ⟨a5, n5, c5, rfl⟩ := owns_slice own5)
        | fail)
      obtain ⟨t1, t2, t3, t4⟩ := row_step HO.out HCe.out HBw.out HN.out (HV4.out.alloc HV4.out.size _) (OO.out.kept (Keep.of_below ((Below.refl w4.heap.size w4).alloc (Nat.le_refl _) _) (Nat.le_refl _))) hgrow own5 hat
      go_roundw
      case rel => exact ⟨k + 1, _, by go_num, by omega, by rw [HYs.out]; exact t1, by rw [HYs.out]; exact t2, t3, t4⟩
      case measure => simp [intOf]; omega
    · obtain rfl : k = ls.length := by omega
      have hgood := good_of_chk HE.out
      have hits : ItsV wr (.slice la ln lc) (itsK day ls ls.length) := hc.its ho (Keep.refl _ _ _)
      have hSq := rSeq_mk _ _ _ hits (by rw [itsK_len (Nat.le_refl _)]; have := hgood.1; omega)
      rw [itsK_all] at hSq
      have HBw := Lib.hid hbw; have HG := Lib.hid hgood
      clear ho hc hits hgood hbw hn
      go_wp2_with fail
      refine hSq.mono ?_; rintro e w4 ⟨⟨az, cz, rfl, ip⟩, hb4⟩
      have hb14 := HBw.out.trans (hb4.mono HBw.out.size)
      have hPu := rPut_any (Cm.item day ls) (item_wt2 HG.out) _ _ w4 ip
      have hby := ip.bytes (form_of_may (Cm.may_items HG.out))
      have HB14 := Lib.hid hb14; have HBY := Lib.hid hby
      clear hSq hb4 hb14 ip hby
      go_wp2_with fail
      refine hPu.mono ?_; rintro e w5 ⟨hP, hb5⟩
      have hres := BytR.of_putted hP (Cm.may_items HG.out) HBY.out
      rw [← HRR.out] at hres
      have hB5 := HB1.out.trans ((HB14.out.trans (hb5.mono HB14.out.size)).mono HB1.out.size)
      have HB5 := Lib.hid hB5
      clear HRR HR hPu hP hb5 hB5
      cases R with
      | error cc =>
        obtain rfl : e = _ := hres
        go_wp2_with fail
        go_ret2
        exact ⟨rfl, HB5.out⟩
      | ok l =>
        obtain ⟨a, c, rfl, hr⟩ := hres
        have HRw := Lib.hid hr
        clear hr
        go_wp2_with fail
        go_ret2
        exact ⟨⟨a, c, rfl, HRw.out⟩, HB5.out⟩
end Go.Proofs.YtfdchdnkblmijaaGreatDoor
end

section
namespace Go.Proofs.YtfdchdnkblmijaaGreatDoor
open Go.RowKit

theorem read_any : ∀ d, 1 ≤ d → d ≤ 8 → ReadOn d
  | 0, h, _ => by omega
  | d + 1, h, h8 => read_of (d + 1) h h8 (fun d' e h1 => by obtain rfl : d' = d := (by omega); exact read_any d' h1 (by omega))

set_option maxRecDepth 100000 in
set_option maxHeartbeats 2000000 in
theorem rGet_any (v : Value) (l : List Int) (p : Int) (w : World) (h : Row .u8 w v l) (hl : l.length ≤ 1000000) :
    Calls Tryz.prog 68 #[v, .int .i64 p] w fun e w' => GotAt w.heap.size w' e (getAt l p) ∧ Below w.heap.size w w' := by
  obtain ⟨a, c, rfl⟩ := h.shape l.length rfl
  obtain ⟨R, hR⟩ : ∃ R, getAt l p = R := ⟨_, rfl⟩
  rw [hR]
  obtain ⟨B, hB⟩ : ∃ B, w.heap.size = B := ⟨_, rfl⟩
  rw [hB]
  have q0 := Trip.new w 45 (.int .i64 0) (.slice none 0 0) (.slice none 0 0)
  have hb0 := (Below.refl w.heap.size w).alloc (Nat.le_refl _) (.cells #[.int .i64 0, .slice none 0 0, .slice none 0 0] 45)
  obtain ⟨W, hW⟩ : ∃ W, w.alloc (.cells #[.int .i64 0, .slice none 0 0, .slice none 0 0] 45) = W := ⟨_, rfl⟩
  have hWs : W.heap.size = B + 1 := by rw [← hW, World.size_alloc, hB]
  rw [hW] at q0 hb0
  have r0 := h.below hb0
  rw [hB] at q0 hb0
  obtain ⟨n, hn⟩ : ∃ n, l.length = n := ⟨_, rfl⟩
  rw [hn] at hl r0 ⊢
  have HN := Lib.hid hn; have HR := Lib.hid hR; have HW := Lib.hid hW; have HB := Lib.hid hB; have R0 := Lib.hid r0; have HB0 := Lib.hid hb0; have Q0 := Lib.hid q0; have HWS := Lib.hid hWs
  clear hn hR hW hB r0 hb0 q0 h hWs
  by_cases hp0 : p < 0
  · have hr : R = .error 1 := by rw [← HR.out, getAt, if_pos (.inl hp0)]
    have HE := Lib.hid hr
    clear hr
    go_enter Tryz.func68, Tryz.ntmps68
    go_wp2_with fail
    rw [HW.out, HB.out]
    refine bodyPost_ret (item_ret rfl rfl Q0.out) rfl ?_
    exact ⟨by rw [HE.out]; rfl, HB0.out⟩
  by_cases hpn : (n : Int) < p
  · have hr : R = .error 1 := by rw [← HR.out, getAt, if_pos (.inr (by rw [HN.out]; exact hpn))]
    have HE := Lib.hid hr
    clear hr
    go_enter Tryz.func68, Tryz.ntmps68
    go_wp2_with fail
    rw [HW.out, HB.out]
    refine bodyPost_ret (item_ret rfl rfl Q0.out) rfl ?_
    exact ⟨by rw [HE.out]; rfl, HB0.out⟩
  obtain ⟨k, rfl⟩ := Int.eq_ofNat_of_zero_le (show 0 ≤ p by omega)
  have hkn : k ≤ n := by omega
  have hR2 : R = readAt l k 8 := by
    rw [← HR.out, getAt, if_neg (by rw [HN.out]; omega), readAt, Int.toNat_natCast]; rfl
  have HR2 := Lib.hid hR2
  clear hR2
  have hC := read_any 8 (by decide) (Nat.le_refl _) _ l k W R0.out (by rw [HN.out]; exact hl) (by rw [HN.out]; exact hkn)
  rw [HWS.out] at hC
  obtain ⟨X, hX⟩ : ∃ X, readAt l k 8 = X := ⟨_, rfl⟩
  rw [hX] at hC
  have HX := Lib.hid hX
  clear hX
  go_enter Tryz.func68, Tryz.ntmps68
  go_wp2_with fail
  rw [HW.out]
  (try rw [HB.out])
  (try go_wp2_with fail)
  refine hC.mono ?_; rintro e w1 ⟨hG, hb1⟩
  clear hC
  have q1 := trip_stp Q0.out (show Below W.heap.size W w1 by rw [HWS.out]; exact hb1)
  have hB1 := HB0.out.trans (hb1.mono (by omega))
  have Q1 := Lib.hid q1; have HB1 := Lib.hid hB1
  clear hb1 hB1
  have f0 := q1.free 0; have f1 := q1.free 1; have f2 := q1.free 2; have x0 := q1.cell0; have x1 := q1.cell1; have x2 := q1.cell2; have xl := q1.lt
  clear q1
  match X, HX, hG with
  | .error cc, HX, hG =>
    have hG' : e = .returned (.tuple #[noV, .int .i64 0, .int .i64 cc]) := hG
    subst hG'
    have hr : R = .error cc := by rw [HR2.out, HX.out]
    have HE := Lib.hid hr
    clear hr hG
    go_wp2_with fail
    refine bodyPost_ret (item_ret rfl rfl (trip3 Q1.out _ _ _)) rfl ?_
    exact ⟨by rw [HE.out]; rfl, bel3' HB1.out (Nat.le_refl _) _ _ _⟩
  | .ok (x, m), HX, hG =>
    obtain ⟨ab, cb, al, cl, rfl, hown⟩ := hG
    have hr : R = .ok (x, m) := by rw [HR2.out, HX.out]
    have HE := Lib.hid hr; have HO := Lib.hid hown
    clear hr hown
    go_wp2_with fail
    refine bodyPost_ret (item_ret rfl rfl (trip3 Q1.out _ _ _)) rfl ?_
    have hb5 := bel3' HB1.out (Nat.le_refl B) (.int .i64 x.tag) (.slice ab x.b.length cb) (.slice al x.l.length cl)
    rw [HE.out]
    refine ⟨⟨ab, cb, al, cl, rfl, (HO.out.kept ⟨?_, fun g hg _ _ => ?_⟩).mono (Nat.le_succ B)⟩, hb5⟩
    · simp
    · exact ((Below.heap_setCell _ ⟨B, 2, none⟩ _ g (show g ≠ B by omega)).trans (Below.heap_setCell _ ⟨B, 1, none⟩ _ g (show g ≠ B by omega))).trans (Below.heap_setCell _ ⟨B, 0, none⟩ _ g (show g ≠ B by omega))

end Go.Proofs.YtfdchdnkblmijaaGreatDoor
end

section
namespace Go.Proofs.YtfdchdnkblmijaaGreatDoor
open Go.RowKit

/-- What items hands back: items and a code. -/
def itemsW (N : Nat) : Except Int (Dm.It × Nat) → List Dm.It × Int
  | .error e => ([], e)
  | .ok (x, n) => if n = N then (seqV x, asE x 48) else ([], 71)
def itemsV (l : List Int) : List Dm.It × Int := itemsW l.length (getAt l 0)

set_option maxRecDepth 100000 in
set_option maxHeartbeats 2000000 in
theorem items10_any (v : Value) (l : List Int) (w : World) (h : Row .u8 w v l) (hl : l.length ≤ 1000000) :
    Calls Tryz.prog 32 #[v] w fun e w' => (∃ a c, e = .returned (.tuple #[.slice a (itemsV l).1.length c, .int .i64 (itemsV l).2]) ∧ ItsV w' (.slice a (itemsV l).1.length c) (itemsV l).1) ∧ Below w.heap.size w w' := by
  have hby := h.all_byte
  have hG := rGet_any v l 0 w h hl
  obtain ⟨a, c, rfl⟩ := h.shape l.length rfl
  obtain ⟨N, hN⟩ : ∃ N, l.length = N := ⟨_, rfl⟩
  obtain ⟨R, hR⟩ : ∃ R, getAt l 0 = R := ⟨_, rfl⟩
  obtain ⟨Z, hZ⟩ : ∃ Z, itemsV l = Z := ⟨_, rfl⟩
  have hZ2 : itemsW N R = Z := by rw [← hZ, ← hR, ← hN]; rfl
  rw [hR, hN] at hG
  rw [hZ, hN]
  have HR := Lib.hid hR; have HBy := Lib.hid hby; have HN := Lib.hid hN; have HZ := Lib.hid hZ2
  clear hR hby hN hZ hZ2 h
  go_enter Tryz.func32, Tryz.ntmps32
  go_wp2_with fail
  refine hG.mono ?_; rintro e w1 ⟨hres, hb⟩
  have HB := Lib.hid hb
  clear hG hb
  cases R with
  | error cc =>
    obtain rfl : e = _ := hres
    have hcc : ¬ cc = 0 := getAt_fail HR.out
    obtain rfl : Z = ([], cc) := HZ.out.symm
    go_wp2_with fail
    go_ret2
    exact ⟨⟨none, 0, rfl, ItsV.nil _⟩, HB.out.alloc HB.out.size _⟩
  | ok p =>
    obtain ⟨x, n⟩ := p
    obtain ⟨ab, cb, al, c2, rfl, ow⟩ := hres
    have hsz := getAt_size HBy.out HR.out
    have ip : ItP w1 (.slice ab x.b.length cb) (.slice al x.l.length c2) x := ow w1 (Keep.refl _ _ _)
    have hA := rAsSeq_val x _ _ _ (ip.alloc (.cells #[.int .i64 x.tag, .slice ab x.b.length cb, .slice al x.l.length c2] 45)) (by have := hsz.1; omega)
    have HS := Lib.hid hsz
    clear hsz ow ip
    by_cases hn : n = N
    · have hn' : (n : Int) = (N : Int) := by omega
      obtain ⟨U, hU⟩ : ∃ U, seqV x = U := ⟨_, rfl⟩
      obtain ⟨E, hE⟩ : ∃ E, asE x 48 = E := ⟨_, rfl⟩
      rw [hU, hE] at hA
      obtain rfl : Z = (U, E) := by rw [← HZ.out, ← hU, ← hE]; exact if_pos hn
      clear hn hU hE HZ
      go_wp2_with fail
      refine hA.mono ?_; rintro e w2 ⟨⟨a3, c3, rfl, hi⟩, hb2⟩
      have HI := Lib.hid hi
      have HB2 := Lib.hid ((HB.out.alloc HB.out.size (.cells #[.int .i64 x.tag, .slice ab x.b.length cb, .slice al x.l.length c2] 45)).trans (hb2.mono (HB.out.alloc HB.out.size _).size))
      clear hA hi hb2
      go_wp2_with fail
      go_ret2
      exact ⟨⟨a3, c3, rfl, HI.out⟩, HB2.out⟩
    · have hn' : ¬ (n : Int) = (N : Int) := by omega
      obtain rfl : Z = ([], 71) := by rw [← HZ.out]; exact if_neg hn
      clear hn hA
      go_wp2_with fail
      go_ret2
      exact ⟨⟨none, 0, rfl, ItsV.nil _⟩, HB.out.alloc HB.out.size _⟩
end Go.Proofs.YtfdchdnkblmijaaGreatDoor
end

section
namespace Go.Proofs.YtfdchdnkblmijaaGreatDoor
open Go.RowKit

set_option maxRecDepth 100000 in
theorem bytes10_any (v1 v2 : Value) (l1 l2 : List Int) (w : World) (h1 : Row .u8 w v1 l1) (h2 : Row .u8 w v2 l2) :
    Calls Tryz.prog 36 #[v1, v2] w fun e w' => e = .returned (.bool (decide (l1 = l2))) ∧ w' = w := by
  have k1 := h1.convert
  have k2 := h2.convert
  have hs := str_eq h1.all_byte h2.all_byte
  obtain ⟨S1, hS1⟩ : ∃ S, strOfNums l1 = S := ⟨_, rfl⟩
  obtain ⟨S2, hS2⟩ : ∃ S, strOfNums l2 = S := ⟨_, rfl⟩
  rw [hS1] at k1 hs
  rw [hS2] at k2 hs
  go_enter Tryz.func36, Tryz.ntmps36
  go_wp2_with fail
  go_ret
  exact ⟨rfl, rfl⟩
end Go.Proofs.YtfdchdnkblmijaaGreatDoor
end

section
namespace Go.Proofs.YtfdchdnkblmijaaGreatDoor
open Go.RowKit

set_option maxRecDepth 100000 in
set_option maxHeartbeats 4000000 in
theorem Same10_eq (day : Int) (ls : List Sm.Sv) (v1 v2 : Value) (w : World) (h1 : Svs w v1 ls) (h2 : Svs w v2 ls) (hl : ls.length ≤ 1000000) :
    Calls Tryz.prog 10 #[.agg #[.int .i64 day, v1], .agg #[.int .i64 day, v2]] w fun e w' => e = .returned (.bool true) ∧ Below w.heap.size w w' := by
  obtain ⟨a1, c1, rfl⟩ := h1.shape
  obtain ⟨a2, c2, rfl⟩ := h2.shape
  obtain ⟨B, hB⟩ : ∃ B, w.heap.size = B := ⟨_, rfl⟩
  have q1 := (Duo.new w 24 (.int .i64 day) (.slice a1 ls.length c1)).alloc (.cells #[.int .i64 day, .slice a2 ls.length c2] 24)
  have q2 := Duo.new (w.alloc (.cells #[.int .i64 day, .slice a1 ls.length c1] 24)) 24 (.int .i64 day) (.slice a2 ls.length c2)
  have hb0 := ((Below.refl w.heap.size w).alloc (Nat.le_refl _) (.cells #[.int .i64 day, .slice a1 ls.length c1] 24)).alloc (by simp) (.cells #[.int .i64 day, .slice a2 ls.length c2] 24)
  rw [World.size_alloc] at q2
  obtain ⟨W, hW⟩ : ∃ W, (w.alloc (.cells #[.int .i64 day, .slice a1 ls.length c1] 24)).alloc (.cells #[.int .i64 day, .slice a2 ls.length c2] 24) = W := ⟨_, rfl⟩
  rw [hW] at q1 q2 hb0
  rw [hB] at q1 q2
  have s1 := h1.below hb0; have s2 := h2.below hb0
  obtain ⟨n, hn⟩ : ∃ n, ls.length = n := ⟨_, rfl⟩
  rw [hn] at hl hW q1 q2 s1 s2 ⊢
  have HW := Lib.hid hW; have HB := Lib.hid hB; have HB0 := Lib.hid hb0; have Q1 := Lib.hid q1; have Q2 := Lib.hid q2; have S1 := Lib.hid s1; have S2 := Lib.hid s2; have HN := Lib.hid hn
  have c0 := q1.cell0; have c1' := q1.cell1; have d0 := q2.cell0; have d1 := q2.cell1; have l1 := q1.lt; have l2 := q2.lt
  clear hW hB hb0 q1 q2 s1 s2 hn h1 h2
  go_enter Tryz.func10, Tryz.ntmps10
  go_wp2_with fail
  rw [HW.out, HB.out]
  (try go_wp2_with fail)
  clear c0 c1' d0 d1 l1 l2
  go_loopw [5] (fun i wr => ∃ k : Nat, i = .int .i64 k ∧ k ≤ n ∧ Below W.heap.size W wr) (fun i _ => n - (intOf i).toNat)
  case atStart => exact ⟨0, rfl, Nat.zero_le _, Below.refl _ _⟩
  case round =>
    obtain ⟨k, rfl, hk, hb⟩ := hrel
    have k0 : (0 : Int) ≤ (k : Int) := by omega
    have e1 : IntKind.i64.wrap ((k : Int) + 1) = (k : Int) + 1 := IntWalk.i64_in _ (by omega)
    have q1 := Q1.out.stp hb
    have q2 := Q2.out.stp hb
    have c0 := q1.cell0; have c1' := q1.cell1; have d0 := q2.cell0; have d1 := q2.cell1; have l1 := q1.lt; have l2 := q2.lt
    have HBr := Lib.hid (HB0.out.trans (hb.mono HB0.out.size))
    by_cases hlt : k < n
    case neg =>
      obtain rfl : k = n := by omega
      clear hlt q1 q2
      go_wp2_with fail
      go_ret
      exact ⟨rfl, HBr.out⟩
    have k1 : (k : Int) < (n : Int) := by omega
    obtain ⟨_, _, e', _, _, _, g1⟩ := S1.out.below hb
    rw [HN.out] at e'
    cases e'
    obtain ⟨b1, o1, rfl, bl1, cc1⟩ := g1 (by rintro rfl; have := HN.out; simp at this; omega)
    obtain ⟨vb1, r1, x0, x1, x2, x3⟩ := cc1 k (by rw [HN.out]; exact hlt)
    obtain ⟨_, _, e', _, _, _, g2⟩ := S2.out.below hb
    rw [HN.out] at e'
    cases e'
    obtain ⟨b2, o2, rfl, bl2, cc2⟩ := g2 (by rintro rfl; have := HN.out; simp at this; omega)
    obtain ⟨vb2, r2, y0, y1, y2, y3⟩ := cc2 k (by rw [HN.out]; exact hlt)
    obtain ⟨s, hs⟩ : ∃ s, ls[k]?.getD Cm.nil = s := ⟨_, rfl⟩
    rw [hs] at r1 r2 x0 x1 x2 y0 y1 y2
    obtain ⟨sb, sh, ss, sl⟩ := s
    dsimp only at r1 r2 x0 x1 x2 y0 y1 y2
    obtain ⟨m, hm⟩ : ∃ m, sl.length = m := ⟨_, rfl⟩
    obtain ⟨av1, cv1, rfl⟩ := r1.shape m hm
    obtain ⟨av2, cv2, rfl⟩ := r2.shape m hm
    have hby : ∀ W', Below wr.heap.size wr W' → Calls Tryz.prog 36 #[.slice av1 m cv1, .slice av2 m cv2] W' fun e w' => e = .returned (.bool true) ∧ w' = W' := fun W' hb' => (bytes10_any _ _ sl sl W' (r1.below hb') (r2.below hb')).mono fun e w' ⟨he, hw⟩ => ⟨by rw [he, decide_eq_true rfl], hw⟩
    have HBY := Lib.hid hby; have HB := Lib.hid hb
    clear hby hb r1 r2 cc1 cc2 g1 g2 hs q1 q2
    go_upto_region 6 with fail
    go_region
    all_goals
      go_wp2_with fail
      refine (HBY.out _ ((((Below.refl wr.heap.size wr).alloc (Nat.le_refl _) _).alloc (by simp) _).drew)).mono ?_; rintro e w' ⟨rfl, rfl⟩
      go_wp2_with fail
      go_roundw
      case rel => exact ⟨k + 1, by go_num, by omega, HB.out.trans (((((Below.refl wr.heap.size wr).alloc (Nat.le_refl _) _).alloc (by simp) _).drew).mono HB.out.size)⟩
      case measure => simp [intOf]; omega
end Go.Proofs.YtfdchdnkblmijaaGreatDoor
end

section
namespace Go.Proofs.YtfdchdnkblmijaaGreatDoor

theorem items_of (l : List Int) : Cm.items l 1 = if (itemsV l).2 = 0 then (if (itemsV l).1.length < 1 then .error 71 else .ok (itemsV l).1) else .error (itemsV l).2 := by
  unfold Cm.items itemsV
  obtain ⟨R, hR⟩ : ∃ R, getAt l 0 = R := ⟨_, rfl⟩
  rw [hR]
  cases R with
  | error e =>
    have h := getAt_fail hR
    simp [itemsW, h]
  | ok p =>
    obtain ⟨x, n⟩ := p
    by_cases h1 : n = l.length
    · by_cases h2 : asE x 48 = 0
      · simp [itemsW, seqV, h1, h2]
      · simp [itemsW, h1, h2]
    · simp [itemsW, h1]
end Go.Proofs.YtfdchdnkblmijaaGreatDoor
end
