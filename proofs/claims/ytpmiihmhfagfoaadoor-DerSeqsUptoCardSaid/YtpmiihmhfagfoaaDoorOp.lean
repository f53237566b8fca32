/-
  The walk of DerPuts: of any item its bytes are what the document says.
-/
import Derived.Test.YtpmiihmhfagfoaaDoorR3
import Derived.Test.YtpmiihmhfagfoaaDoorEi
import Derived.Test.YtpmiihmhfagfoaaDoorEw
namespace Go.Proofs.YtpmiihmhfagfoaaDoor
open Go.RowKit

theorem form_may {x : Dm.It} (h : Dm.may 8 x = true) : Dm.form x = true := by rw [Dm.may_form] at h; simp only [Bool.and_eq_true] at h; exact h.1
set_option maxRecDepth 100000 in
set_option maxHeartbeats 2000000 in
theorem rPut_any (x : Dm.It) (hw : Dm.wt x ≤ 20000) (vb vl : Value) (w : World) (hp : ItP w vb vl x) :
    Calls Tryd.prog 15 #[.agg #[.int .i64 x.tag, vb, vl]] w fun e w' => Putted w w' x e ∧ Below w.heap.size w w' := by
  obtain ⟨ab, cb, rfl⟩ := hp.2.1.shape x.b.length rfl
  obtain ⟨al, cl, rfl⟩ := hp.2.2.shape
  have hl2 := len_le' x
  have hb0 := (Below.refl w.heap.size w).alloc (Nat.le_refl _) (.cells #[.int .i64 x.tag, .slice ab x.b.length cb, .slice al x.l.length cl] 25)
  have q0 := Trip.new w 25 (.int .i64 x.tag) (.slice ab x.b.length cb) (.slice al x.l.length cl)
  have hC := rMay_any x _ _ _ (hp.alloc (.cells #[.int .i64 x.tag, .slice ab x.b.length cb, .slice al x.l.length cl] 25)) (by omega)
  have HB0 := Lib.hid hb0; have Q0 := Lib.hid q0; have HP := Lib.hid hp
  clear hb0 q0 hp
  obtain ⟨M, hM⟩ : ∃ M, Dm.may 8 x = M := ⟨_, rfl⟩
  rw [hM] at hC
  have HM := Lib.hid hM
  clear hM
  go_enter Tryd.func15, Tryd.ntmps15
  go_wp2_with fail
  refine hC.mono ?_; rintro e w1 ⟨rfl, hb⟩
  have hB1 := HB0.out.trans (hb.mono HB0.out.size)
  have q1 := trip_stp Q0.out hb
  have c0 := q1.cell0; have c1 := q1.cell1; have c2 := q1.cell2
  have HB1 := Lib.hid hB1
  clear hC hb q1 hB1
  cases M with
  | false =>
    go_wp2_with fail
    go_ret2
    exact ⟨by unfold Putted; rw [if_neg (by rw [HM.out]; decide)]; rfl, HB1.out⟩
  | true =>
    have hC2 := Bytes_any x w1 _ _ (HP.out.below HB1.out) (HP.out.bytes (form_may HM.out)) (by omega)
    have hbl := Dm.bytes_len x
    have HBL := Lib.hid hbl
    clear hbl
    go_wp2_with fail
    refine hC2.mono ?_; rintro e w2 ⟨⟨v, rfl, own⟩, hb⟩
    have hB2 := HB1.out.trans (hb.mono HB1.out.size)
    have own' := owns_base own HB1.out.size
    have rr := Row.of_bytes own (HP.out.bytes (form_may HM.out))
    obtain ⟨a, c, rfl⟩ := rr.shape _ HBL.out
    have HO := Lib.hid own'; have HB2 := Lib.hid hB2
    clear hC2 own hb hB2 rr own'
    obtain ⟨L, hL⟩ : ∃ L, Dm.len x = L := ⟨_, rfl⟩
    rw [hL] at HO hl2 ⊢
    have HL := Lib.hid hL
    clear hL
    by_cases h8 : L ≤ 8192
    · have h8' : ¬ (8192 : Int) < (L : Int) := by omega
      go_wp2_with fail
      go_ret2
      exact ⟨by unfold Putted; rw [if_pos HM.out, HL.out, if_pos h8]; exact ⟨a, c, rfl, HO.out⟩, HB2.out⟩
    · have h8' : (8192 : Int) < (L : Int) := by omega
      go_wp2_with fail
      go_ret2
      exact ⟨by unfold Putted; rw [if_pos HM.out, HL.out, if_neg h8]; rfl, HB2.out⟩
def putL (x : Dm.It) : List Int := if Dm.may 8 x = true then (if Dm.len x ≤ 8192 then Dm.bytes x else []) else []
def putE (x : Dm.It) : Int := if Dm.may 8 x = true then (if Dm.len x ≤ 8192 then 0 else 2) else 1
theorem Putted.row {w w' : World} {x : Dm.It} {e : Ending} (h : Putted w w' x e) (hz : Dm.may 8 x = true → ∀ z ∈ Dm.bytes x, byte z) :
    ∃ a c, e = .returned (.tuple #[.slice a (putL x).length c, .int .i64 (putE x)]) ∧ Row .u8 w' (.slice a (putL x).length c) (putL x) := by
  unfold Putted at h
  unfold putL putE
  by_cases hm : Dm.may 8 x = true
  · rw [if_pos hm] at h ⊢
    rw [if_pos hm]
    by_cases h8 : Dm.len x ≤ 8192
    · rw [if_pos h8] at h ⊢
      rw [if_pos h8, Dm.bytes_len]
      obtain ⟨a, c, he, ho⟩ := h
      exact ⟨a, c, he, Row.of_bytes ho (hz hm)⟩
    · rw [if_neg h8] at h ⊢
      rw [if_neg h8]
      exact ⟨none, 0, h, Row.nil _ _⟩
  · rw [if_neg hm] at h ⊢
    rw [if_neg hm]
    exact ⟨none, 0, h, Row.nil _ _⟩
theorem Put_row (x : Dm.It) (hw : Dm.wt x ≤ 400000) (vb vl : Value) (w : World) (hk : KindsAt w) (hp : ItP w vb vl x) :
    Calls Tryd.prog 14 #[.agg #[.int .i64 x.tag, vb, vl]] w fun e w' => (∃ a c, e = .returned (.tuple #[.slice a (putL x).length c, .int .i64 (putE x)]) ∧ Row .u8 w' (.slice a (putL x).length c) (putL x)) ∧ Below w.heap.size w w' :=
  (Put_any x hw vb vl w hk hp).mono fun _ _ ⟨h, hb⟩ => ⟨h.row fun hm => hp.bytes (form_may hm), hb⟩
theorem rPut_row (x : Dm.It) (hw : Dm.wt x ≤ 20000) (vb vl : Value) (w : World) (hp : ItP w vb vl x) :
    Calls Tryd.prog 15 #[.agg #[.int .i64 x.tag, vb, vl]] w fun e w' => (∃ a c, e = .returned (.tuple #[.slice a (putL x).length c, .int .i64 (putE x)]) ∧ Row .u8 w' (.slice a (putL x).length c) (putL x)) ∧ Below w.heap.size w w' :=
  (rPut_any x hw vb vl w hp).mono fun _ _ ⟨h, hb⟩ => ⟨h.row fun hm => hp.bytes (form_may hm), hb⟩

set_option maxRecDepth 100000 in
set_option maxHeartbeats 2000000 in
theorem DerPuts_any (v : Value) (x : Dm.It) (w : World) (hk : KindsAt w) (hx : ItV w v x) (hw : Dm.wt x ≤ 1048576) :
    Calls Tryd.prog 3 #[v] w fun e w' => e = .returned (.bool true) ∧ Below w.heap.size w w' := by
  obtain ⟨ab, cb, al, cl, rfl, hp⟩ := hx.parts
  obtain ⟨nb, hnb⟩ : ∃ n, x.b.length = n := ⟨_, rfl⟩
  obtain ⟨nl, hnl⟩ : ∃ n, x.l.length = n := ⟨_, rfl⟩
  rw [hnb, hnl] at hp ⊢
  have q0 := Trip.new w 25 (.int .i64 x.tag) (.slice ab nb cb) (.slice al nl cl)
  have hb0 := (Below.refl w.heap.size w).alloc (Nat.le_refl _) (.cells #[.int .i64 x.tag, .slice ab nb cb, .slice al nl cl] 25)
  have hC1 := live07_true _ (hk.below hb0)
  have HK := Lib.hid hk; have HP := Lib.hid hp; have HB0 := Lib.hid hb0; have Q0 := Lib.hid q0
  clear hk hp hb0 q0 hx hnb hnl
  go_enter Tryd.func3, Tryd.ntmps3
  go_wp2_with fail
  refine hC1.mono ?_; rintro e w1 ⟨rfl, hb⟩
  have hB1 := HB0.out.trans (hb.mono HB0.out.size)
  have q1 := trip_stp Q0.out hb
  have c0 := q1.cell0; have c1' := q1.cell1; have c2' := q1.cell2
  have hC2 := Few_any x _ _ w1 (HP.out.below hB1) (by omega)
  have HB1 := Lib.hid hB1; have Q1 := Lib.hid q1
  clear hC1 hb hB1 q1
  by_cases hfew : Dm.wt x ≤ 9000
  case neg =>
    rw [decide_eq_false hfew] at hC2
    go_wp2_with fail
    refine hC2.mono ?_; rintro e w2 ⟨rfl, hb⟩
    clear hC2
    have hB2 := HB1.out.trans (hb.mono HB1.out.size)
    go_wp2_with fail
    go_ret
    exact ⟨rfl, hB2⟩
  rw [decide_eq_true hfew] at hC2
  go_wp2_with fail
  refine hC2.mono ?_; rintro e w2 ⟨rfl, hb⟩
  have hB2 := HB1.out.trans (hb.mono HB1.out.size)
  have q2 := trip_stp Q1.out hb
  have c0 := q2.cell0; have c1' := q2.cell1; have c2' := q2.cell2
  have hC3 := Put_row x (by omega) _ _ w2 (HK.out.below hB2) (HP.out.below hB2)
  obtain ⟨P, hP⟩ : ∃ P, putL x = P := ⟨_, rfl⟩
  obtain ⟨E, hE⟩ : ∃ E, putE x = E := ⟨_, rfl⟩
  rw [hP, hE] at hC3
  have HB2 := Lib.hid hB2; have Q2 := Lib.hid q2
  clear hC2 hb hB2 q2
  go_wp2_with fail
  refine hC3.mono ?_; rintro e w3 ⟨⟨a3, c3, rfl, r3⟩, hb⟩
  have hB3 := HB2.out.trans (hb.mono HB2.out.size)
  have q3 := trip_stp Q2.out hb
  have c0 := q3.cell0; have c1' := q3.cell1; have c2' := q3.cell2
  have hC4 := rPut_row x (by omega) _ _ w3 (HP.out.below hB3)
  rw [hP, hE] at hC4
  have HB3 := Lib.hid hB3; have R3 := Lib.hid r3
  clear hC3 hb hB3 q3 r3 hP hE
  go_wp2_with fail
  refine hC4.mono ?_; rintro e w4 ⟨⟨a4, c4, rfl, r4⟩, hb⟩
  have hB4 := HB3.out.trans (hb.mono HB3.out.size)
  have k1 := (R3.out.below hb).convert
  have k2 := r4.convert
  obtain ⟨S, hS⟩ : ∃ S, strOfNums P = S := ⟨_, rfl⟩
  rw [hS] at k1 k2
  clear hC4 hb r4 hS c0 c1' c2'
  go_wp2_with fail
  go_ret
  exact ⟨rfl, hB4⟩
end Go.Proofs.YtpmiihmhfagfoaaDoor
