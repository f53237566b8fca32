/-
  Walks over the document's answer (greatsealref07): as, AsInt, AsText, AsOct, AsBool, AsSeq, Seq. (Printed by wip/gen_ras.py.)
-/
import Derived.Test.YtpmiihmhfagfoaaDoorR3
import Derived.Test.YtpmiihmhfagfoaaDoorEf
namespace Go.Proofs.YtpmiihmhfagfoaaDoor
open Go.RowKit

set_option maxRecDepth 100000 in
set_option maxHeartbeats 1000000 in
theorem ras_any (x : Dm.It) (vb vl : Value) (t : Int) (w : World) (hp : ItP w vb vl x) (hw : Dm.wt x ≤ 2000000) :
    Calls Tryd.prog 58 #[.agg #[.int .i64 x.tag, vb, vl], .int .i64 t] w fun e w' => e = .returned (.int .i64 (asE x t)) ∧ Below w.heap.size w w' := by
  obtain ⟨ab, cb, rfl⟩ := hp.2.1.shape x.b.length rfl
  obtain ⟨al, cl, rfl⟩ := hp.2.2.shape
  have hb0 := (Below.refl w.heap.size w).alloc (Nat.le_refl _) (.cells #[.int .i64 x.tag, .slice ab x.b.length cb, .slice al x.l.length cl] 25)
  have hC := rMay_any x _ _ _ (hp.alloc (.cells #[.int .i64 x.tag, .slice ab x.b.length cb, .slice al x.l.length cl] 25)) hw
  have hE1 := asE_ne (x := x) (t := t)
  have hE2 := asE_may (x := x) (t := t)
  obtain ⟨E, hE⟩ : ∃ E, asE x t = E := ⟨_, rfl⟩
  obtain ⟨T, hT⟩ : ∃ T, x.tag = T := ⟨_, rfl⟩
  rw [hT] at hb0 hC hE1 hE2
  rw [hE] at hE1 hE2
  rw [hT, hE]
  have HB0 := Lib.hid hb0; have HE1 := Lib.hid hE1; have HE2 := Lib.hid hE2
  clear hE hT hp hb0 hE1 hE2
  by_cases ht : T = t
  case neg =>
    have ht' : (T != t) = true := by simpa using ht
    clear hC
    go_enter Tryd.func58, Tryd.ntmps58
    go_wp2_with fail
    go_ret
    exact ⟨by rw [HE1.out ht]; rfl, HB0.out⟩
  subst ht
  obtain ⟨M, hM⟩ : ∃ M, Dm.may 8 x = M := ⟨_, rfl⟩
  rw [hM] at hC
  have hE := HE2.out rfl
  rw [hM] at hE
  have HEE := Lib.hid hE
  clear hE hM
  go_enter Tryd.func58, Tryd.ntmps58
  go_wp2_with fail
  refine hC.mono ?_; rintro e w1 ⟨rfl, hb1⟩
  have hB1 := HB0.out.trans (hb1.mono HB0.out.size)
  clear hC hb1
  cases M with
  | false =>
    go_wp2_with fail
    go_ret
    exact ⟨by rw [show E = 71 from HEE.out]; rfl, hB1⟩
  | true =>
    go_wp2_with fail
    go_ret
    exact ⟨by rw [show E = 0 from HEE.out]; rfl, hB1⟩

/-- What the five tell. -/
def intV (x : Dm.It) : Int := if asE x 2 = 0 then numI x.b else 0
def textV (x : Dm.It) : ByteArray := if asE x 12 = 0 then strOfNums x.b else ByteArray.empty
def octV (x : Dm.It) : List Int := if asE x 4 = 0 then x.b else []
def boolV (x : Dm.It) : Bool := if asE x 1 = 0 then decide (x.b = [255]) else false
def seqV (x : Dm.It) : List Dm.It := if asE x 48 = 0 then x.l else []
theorem asE_zero {x : Dm.It} {t : Int} (h : asE x t = 0) : x.tag = t ∧ Dm.may 8 x = true := by
  unfold asE at h
  split at h
  · next ht =>
    split at h
    · next hm => exact ⟨ht, hm⟩
    · cases h
  · cases h
theorem zero_b {x : Dm.It} {t : Int} (h : asE x t = 0) : Dm.mayB t x.b = true := by
  obtain ⟨ht, hm⟩ := asE_zero h
  have := may_b hm
  rwa [ht] at this
theorem AsInt_val (x : Dm.It) (vb vl : Value) (w : World) (hk : KindsAt w) (hp : ItP w vb vl x) (hw : Dm.wt x ≤ 2000000) :
    Calls Tryd.prog 21 #[.agg #[.int .i64 x.tag, vb, vl]] w fun e w' => e = .returned (.tuple #[.int .i64 (intV x), .int .i64 (asE x 2)]) ∧ Below w.heap.size w w' :=
  (AsInt_any x vb vl w hk hp (by omega)).mono fun e w' ⟨⟨v, he, hv⟩, hb⟩ => by
    have e2 : v = .int .i64 (intV x) := by
      unfold intV
      by_cases h0 : asE x 2 = 0
      · rw [if_pos h0] at hv ⊢; exact hv
      · rw [if_neg h0] at hv ⊢; exact hv
    rw [e2] at he; exact ⟨he, hb⟩
theorem AsText_val (x : Dm.It) (vb vl : Value) (w : World) (hk : KindsAt w) (hp : ItP w vb vl x) (hw : Dm.wt x ≤ 2000000) :
    Calls Tryd.prog 27 #[.agg #[.int .i64 x.tag, vb, vl]] w fun e w' => e = .returned (.tuple #[.string (textV x), .int .i64 (asE x 12)]) ∧ Below w.heap.size w w' :=
  (AsText_any x vb vl w hk hp (by omega)).mono fun e w' ⟨⟨v, he, hv⟩, hb⟩ => by
    have e2 : v = .string (textV x) := by
      unfold textV
      by_cases h0 : asE x 12 = 0
      · rw [if_pos h0] at hv ⊢; exact hv
      · rw [if_neg h0] at hv ⊢; exact hv
    rw [e2] at he; exact ⟨he, hb⟩
theorem AsBool_val (x : Dm.It) (vb vl : Value) (w : World) (hk : KindsAt w) (hp : ItP w vb vl x) (hw : Dm.wt x ≤ 2000000) :
    Calls Tryd.prog 31 #[.agg #[.int .i64 x.tag, vb, vl]] w fun e w' => e = .returned (.tuple #[.bool (boolV x), .int .i64 (asE x 1)]) ∧ Below w.heap.size w w' :=
  (AsBool_any x vb vl w hk hp (by omega)).mono fun e w' ⟨⟨v, he, hv⟩, hb⟩ => by
    have e2 : v = .bool (boolV x) := by
      unfold boolV
      by_cases h0 : asE x 1 = 0
      · rw [if_pos h0] at hv ⊢; exact hv
      · rw [if_neg h0] at hv ⊢; exact hv
    rw [e2] at he; exact ⟨he, hb⟩
theorem AsOct_val (x : Dm.It) (vb vl : Value) (w : World) (hk : KindsAt w) (hp : ItP w vb vl x) (hw : Dm.wt x ≤ 2000000) :
    Calls Tryd.prog 29 #[.agg #[.int .i64 x.tag, vb, vl]] w fun e w' => (∃ a c, e = .returned (.tuple #[.slice a (octV x).length c, .int .i64 (asE x 4)]) ∧ Row .u8 w' (.slice a (octV x).length c) (octV x)) ∧ Below w.heap.size w w' :=
  (AsOct_any x vb vl w hk hp (by omega) (by have := Dm.wt_eq x; omega)).mono fun e w' ⟨⟨v, he, hv⟩, hb⟩ => by
    unfold octV
    by_cases h0 : asE x 4 = 0
    · rw [if_pos h0] at hv
      simp only [if_pos h0]
      have rr := Row.of_bytes hv hp.2.1.all_byte
      obtain ⟨a, c, rfl⟩ := rr.shape _ rfl
      exact ⟨⟨a, c, he, rr⟩, hb⟩
    · rw [if_neg h0] at hv
      simp only [if_neg h0]
      subst hv
      exact ⟨⟨none, 0, he, Row.nil _ _⟩, hb⟩
theorem AsSeq_val (x : Dm.It) (vb vl : Value) (w : World) (hk : KindsAt w) (hp : ItP w vb vl x) (hw : Dm.wt x ≤ 2000000) :
    Calls Tryd.prog 25 #[.agg #[.int .i64 x.tag, vb, vl]] w fun e w' => (∃ a c, e = .returned (.tuple #[.slice a (seqV x).length c, .int .i64 (asE x 48)]) ∧ ItsV w' (.slice a (seqV x).length c) (seqV x)) ∧ Below w.heap.size w w' :=
  (AsSeq_any x vb vl w hk hp (by omega) (by have := Dm.wt_eq x; have := Dm.wts_len x.l; omega)).mono fun e w' ⟨⟨v, he, hv⟩, hb⟩ => by
    unfold seqV
    by_cases h0 : asE x 48 = 0
    · rw [if_pos h0] at hv
      simp only [if_pos h0]
      obtain ⟨a, c, rfl⟩ := ItsV.shape hv
      exact ⟨⟨a, c, he, hv⟩, hb⟩
    · rw [if_neg h0] at hv
      simp only [if_neg h0]
      subst hv
      exact ⟨⟨none, 0, he, ItsV.nil _⟩, hb⟩

set_option maxRecDepth 100000 in
set_option maxHeartbeats 2000000 in
theorem rAsText_val (x : Dm.It) (vb vl : Value) (w : World) (hp : ItP w vb vl x) (hw : Dm.wt x ≤ 2000000) :
    Calls Tryd.prog 28 #[.agg #[.int .i64 x.tag, vb, vl]] w fun e w' => e = .returned (.tuple #[.string (textV x), .int .i64 (asE x 12)]) ∧ Below w.heap.size w w' := by
  obtain ⟨ab, cb, rfl⟩ := hp.2.1.shape x.b.length rfl
  obtain ⟨al, cl, rfl⟩ := hp.2.2.shape
  have hb0 := (Below.refl w.heap.size w).alloc (Nat.le_refl _) (.cells #[.int .i64 x.tag, .slice ab x.b.length cb, .slice al x.l.length cl] 25)
  have q0 := Trip.new w 25 (.int .i64 x.tag) (.slice ab x.b.length cb) (.slice al x.l.length cl)
  have hC := ras_any x _ _ 12 _ (hp.alloc (.cells #[.int .i64 x.tag, .slice ab x.b.length cb, .slice al x.l.length cl] 25)) hw
  obtain ⟨nb, hnb⟩ : ∃ n, x.b.length = n := ⟨_, rfl⟩
  obtain ⟨nl, hnl⟩ : ∃ n, x.l.length = n := ⟨_, rfl⟩
  obtain ⟨E, hE⟩ : ∃ E, asE x 12 = E := ⟨_, rfl⟩
  rw [hnb, hnl] at hb0 q0 hC hp
  rw [hE] at hC
  rw [hnb, hnl, hE]
  have HB0 := Lib.hid hb0; have Q0 := Lib.hid q0; have HP := Lib.hid hp; have HE := Lib.hid hE; have HNB := Lib.hid hnb; have HNL := Lib.hid hnl
  clear hb0 q0 hp hE hnb hnl
  go_enter Tryd.func28, Tryd.ntmps28
  go_wp2_with fail
  refine hC.mono ?_; rintro e w1 ⟨rfl, hb1⟩
  have hB1 := HB0.out.trans (hb1.mono HB0.out.size)
  have q1 := trip_stp Q0.out hb1
  have c0 := q1.cell0; have c1 := q1.cell1; have c2 := q1.cell2; have xl := q1.lt
  have HB1 := Lib.hid hB1; have Q1 := Lib.hid q1
  clear hC hb1 hB1 q1
  by_cases h0 : E = 0
  case neg =>
    have h0' : (E != 0) = true := by simpa using h0
    go_wp2_with fail
    go_ret2
    exact ⟨by unfold textV; rw [HE.out, if_neg h0]; rfl, HB1.out⟩
  subst h0
  have hz := zero_b HE.out
  have kc := (HP.out.2.1.below HB1.out).convert
  clear hz
  go_wp2_with fail
  go_ret2
  exact ⟨by unfold textV; rw [HE.out, if_pos rfl]; rfl, HB1.out⟩

set_option maxRecDepth 100000 in
set_option maxHeartbeats 2000000 in
theorem rAsBool_val (x : Dm.It) (vb vl : Value) (w : World) (hp : ItP w vb vl x) (hw : Dm.wt x ≤ 2000000) :
    Calls Tryd.prog 32 #[.agg #[.int .i64 x.tag, vb, vl]] w fun e w' => e = .returned (.tuple #[.bool (boolV x), .int .i64 (asE x 1)]) ∧ Below w.heap.size w w' := by
  obtain ⟨ab, cb, rfl⟩ := hp.2.1.shape x.b.length rfl
  obtain ⟨al, cl, rfl⟩ := hp.2.2.shape
  have hb0 := (Below.refl w.heap.size w).alloc (Nat.le_refl _) (.cells #[.int .i64 x.tag, .slice ab x.b.length cb, .slice al x.l.length cl] 25)
  have q0 := Trip.new w 25 (.int .i64 x.tag) (.slice ab x.b.length cb) (.slice al x.l.length cl)
  have hC := ras_any x _ _ 1 _ (hp.alloc (.cells #[.int .i64 x.tag, .slice ab x.b.length cb, .slice al x.l.length cl] 25)) hw
  obtain ⟨nb, hnb⟩ : ∃ n, x.b.length = n := ⟨_, rfl⟩
  obtain ⟨nl, hnl⟩ : ∃ n, x.l.length = n := ⟨_, rfl⟩
  obtain ⟨E, hE⟩ : ∃ E, asE x 1 = E := ⟨_, rfl⟩
  rw [hnb, hnl] at hb0 q0 hC hp
  rw [hE] at hC
  rw [hnb, hnl, hE]
  have HB0 := Lib.hid hb0; have Q0 := Lib.hid q0; have HP := Lib.hid hp; have HE := Lib.hid hE; have HNB := Lib.hid hnb; have HNL := Lib.hid hnl
  clear hb0 q0 hp hE hnb hnl
  go_enter Tryd.func32, Tryd.ntmps32
  go_wp2_with fail
  refine hC.mono ?_; rintro e w1 ⟨rfl, hb1⟩
  have hB1 := HB0.out.trans (hb1.mono HB0.out.size)
  have q1 := trip_stp Q0.out hb1
  have c0 := q1.cell0; have c1 := q1.cell1; have c2 := q1.cell2; have xl := q1.lt
  have HB1 := Lib.hid hB1; have Q1 := Lib.hid q1
  clear hC hb1 hB1 q1
  by_cases h0 : E = 0
  case neg =>
    have h0' : (E != 0) = true := by simpa using h0
    go_wp2_with fail
    go_ret2
    exact ⟨by unfold boolV; rw [HE.out, if_neg h0]; rfl, HB1.out⟩
  subst h0
  have hz := zero_b HE.out
  have hb : x.b = [0] ∨ x.b = [255] := by simpa [Dm.mayB] using hz
  have hn1 : nb = 1 := by rw [← HNB.out]; rcases hb with h | h <;> rw [h] <;> rfl
  obtain ⟨b, off, rfl, hlt, ct⟩ := (HP.out.2.1.below HB1.out).cellAt 0 (by rw [HNB.out]; omega)
  subst hn1
  have hV : boolV x = decide (x.b = [255]) := by unfold boolV; rw [HE.out, if_pos rfl]
  clear hz hlt
  rcases hb with h | h
  all_goals
    rw [h] at ct hV
    simp only [List.getElem?_cons_zero, Option.getD_some, Nat.add_zero] at ct
    have HV := Lib.hid hV
    clear hV h
    go_wp2_with fail
    go_ret2
    exact ⟨by rw [HV.out]; rfl, HB1.out⟩

set_option maxRecDepth 100000 in
set_option maxHeartbeats 2000000 in
theorem rAsOct_val (x : Dm.It) (vb vl : Value) (w : World) (hp : ItP w vb vl x) (hw : Dm.wt x ≤ 2000000) :
    Calls Tryd.prog 30 #[.agg #[.int .i64 x.tag, vb, vl]] w fun e w' => (∃ a c, e = .returned (.tuple #[.slice a (octV x).length c, .int .i64 (asE x 4)]) ∧ Row .u8 w' (.slice a (octV x).length c) (octV x)) ∧ Below w.heap.size w w' := by
  obtain ⟨ab, cb, rfl⟩ := hp.2.1.shape x.b.length rfl
  obtain ⟨al, cl, rfl⟩ := hp.2.2.shape
  have hb0 := (Below.refl w.heap.size w).alloc (Nat.le_refl _) (.cells #[.int .i64 x.tag, .slice ab x.b.length cb, .slice al x.l.length cl] 25)
  have q0 := Trip.new w 25 (.int .i64 x.tag) (.slice ab x.b.length cb) (.slice al x.l.length cl)
  have hC := ras_any x _ _ 4 _ (hp.alloc (.cells #[.int .i64 x.tag, .slice ab x.b.length cb, .slice al x.l.length cl] 25)) hw
  obtain ⟨nb, hnb⟩ : ∃ n, x.b.length = n := ⟨_, rfl⟩
  obtain ⟨nl, hnl⟩ : ∃ n, x.l.length = n := ⟨_, rfl⟩
  obtain ⟨E, hE⟩ : ∃ E, asE x 4 = E := ⟨_, rfl⟩
  rw [hnb, hnl] at hb0 q0 hC hp
  rw [hE] at hC
  rw [hnb, hnl, hE]
  have HB0 := Lib.hid hb0; have Q0 := Lib.hid q0; have HP := Lib.hid hp; have HE := Lib.hid hE; have HNB := Lib.hid hnb; have HNL := Lib.hid hnl
  clear hb0 q0 hp hE hnb hnl
  go_enter Tryd.func30, Tryd.ntmps30
  go_wp2_with fail
  refine hC.mono ?_; rintro e w1 ⟨rfl, hb1⟩
  have hB1 := HB0.out.trans (hb1.mono HB0.out.size)
  have q1 := trip_stp Q0.out hb1
  have c0 := q1.cell0; have c1 := q1.cell1; have c2 := q1.cell2; have xl := q1.lt
  have HB1 := Lib.hid hB1; have Q1 := Lib.hid q1
  clear hC hb1 hB1 q1
  by_cases h0 : E = 0
  case neg =>
    have h0' : (E != 0) = true := by simpa using h0
    go_wp2_with fail
    go_ret2
    exact ⟨by unfold octV; simp only [HE.out, if_neg h0]; exact ⟨none, 0, rfl, Row.nil _ _⟩, HB1.out⟩
  subst h0
  have hz := zero_b HE.out
  have A0 := Lib.hid (AccR.empty w1); have R1 := Lib.hid (HP.out.2.1.below HB1.out)
  have lnb : nb ≤ 2000000 := by have h1 := HNB.out; have h2 := Dm.wt_eq x; omega
  clear hz
  go_wp2_with (first
    | (at_builtin; refine wpList_plain rfl fun Kx hKx => ?_; refine wp_app (.tmp 10) (.tmp 12) rfl w1.heap.size A0.out.bel.size _ [] rfl A0.out.own _ x.b (A0.out.row R1.out) rfl (by rw [HNB.out]; simp; omega) ?_; intro u4 w4 ap4
       have A1 := Lib.hid (A0.out.app ap4); refine hKx _ _ ?_; clear ap4)
    | fail)
  have rr := Row.of_bytes A1.out.own (by rw [List.nil_append]; exact HP.out.2.1.all_byte)
  rw [List.nil_append] at rr
  obtain ⟨a4, c4, rfl⟩ := rr.shape _ rfl
  go_ret2
  exact ⟨by unfold octV; simp only [HE.out, if_true]; exact ⟨a4, c4, rfl, rr⟩, HB1.out.trans (A1.out.bel.mono HB1.out.size)⟩

/-- append([]api.Item{}, l...). -/
theorem app_items {w0 W : World} (l : List Dm.It) (a : Option Addr) (n c : Nat) (hw : Below w0.heap.size w0 W) (h : ItsV w0 (.slice a n c) l) (hlen : l.length ≤ 1000000) {ty : TypeId} :
    ∃ r W', (Builtin.append_ #[23, 23] ty #[.slice (some ⟨W.heap.size, 0, none⟩) 0 0, .slice a n c]).run Tryd.prog (W.alloc (.cells #[] 25)) = .ok r W' ∧ Below W.heap.size W W' ∧ (∃ a c, r = .slice a l.length c) ∧ (∀ g, r.ownBlock = some g → W.heap.size ≤ g) ∧
      ∀ V, Below w0.heap.size w0 V → (∀ g, r.ownBlock = some g → V.heap[g]? = W'.heap[g]?) → ItsV V r l := by
  obtain ⟨j0, gi, gz0, gz1, gz2⟩ := info_parts info_item'
  have own0 : (W.alloc (.cells #[] 25)).ownsRow W.heap.size 25 3 (.slice (some ⟨W.heap.size, 0, none⟩) 0 0) 0 [] := World.ownsRow_made W #[] 0 (Nat.le_refl _) (Nat.zero_le _) rfl
  have hb0 := (Below.refl W.heap.size W).alloc (Nat.le_refl _) (.cells #[] 25)
  obtain ⟨_, _, e, hl, hc, h0, hr⟩ := h
  cases e
  cases a with
  | none =>
    obtain rfl : c = 0 := h0 rfl
    obtain rfl : l = [] := List.length_eq_zero_iff.1 (by omega)
    refine ⟨_, _, run_append_owned_none (P := Tryd.prog) (w := W.alloc (.cells #[] 25)) W.heap.size 23 ty 25 j0 3 Tryd.underlying23 gi _ 0 _ own0, hb0, ⟨_, _, rfl⟩, (fun g hg => by cases hg; exact Nat.le_refl _), fun V _ _ => ⟨_, _, rfl, Nat.le_refl _, Nat.zero_le _, (fun e => by cases e), fun e => absurd rfl e⟩⟩
  | some ad =>
    have hx : ∃ xs : List Value, xs.length = l.length * 3 ∧ (∀ j u, xs[j]? = some u → w0.cell? (ad.add j) = some u) ∧ (∀ u ∈ xs, u.oneCell' = true) ∧
        ∀ (V : World) (b' o' : Nat), Below w0.heap.size w0 V → (∀ j u, xs[j]? = some u → V.cell? ⟨b', o' + j, none⟩ = some u) → ItemsAt V b' o' l := by
      by_cases hne : l = []
      · subst hne
        exact ⟨[], rfl, (fun j u h => by simp at h), (fun u h => by simp at h), fun V b' o' _ _ => by unfold ItemsAt; trivial⟩
      · obtain ⟨b, o, e, hlt, hi⟩ := hr hne
        cases e
        obtain ⟨xs, k0, k1, k2, k3⟩ := items_cells hlt hi
        exact ⟨xs, k0, fun j u hj => by rw [addr_add]; exact k1 j u hj, k2, k3⟩
    obtain ⟨xs, k0, k1, k2, k3⟩ := hx
    have k1' : ∀ j u, xs[j]? = some u → (W.alloc (.cells #[] 25)).cell? (ad.add j) = some u := fun j u hj => by
      have h1 := k1 j u hj
      have hlt := World.block_lt_of_cell? w0 _ h1
      exact ((hw.alloc hw.size (.cells #[] 25)).cell hlt).trans h1
    obtain ⟨v', w', e1, own5, hgrow, _, hat⟩ := run_append_own_at (P := Tryd.prog) (W.alloc (.cells #[] 25)) W.heap.size 23 ty 25 j0 (.agg #[.int .i64 0, .slice none 0 0, .slice none 0 0]) 3 56 Tryd.underlying23 gi gz0 gz1 gz2 rfl (by decide) _ 0 [] own0 ad l.length c xs k0 k1' k2 (by unfold maxLen; omega) (by omega) (by simp)
    have hb5 : Below W.heap.size W w' := hb0.grown hgrow (by simp) (fun k e => by cases e; exact Nat.le_refl _)
    rw [Nat.zero_add, List.nil_append] at own5
    obtain ⟨a5, n5, c5, rfl⟩ := owns_slice own5
    have hn5 : n5 = l.length := by
      rcases own5.2 with ⟨h1, h2⟩ | ⟨g', cap', cur, h1, _⟩
      · cases h1; omega
      · cases h1; rfl
    subst hn5
    exact ⟨_, _, e1, hb5, ⟨_, _, rfl⟩, fun g hg => (own_at own5 hg).1, fun V hV hg => its_of_owns (fun b' o' hc => k3 V b' o' hV hc) ⟨own5.1, own5.2.imp_right (by
      rintro ⟨g, cap', cur, e, q1, q2, r⟩
      exact ⟨g, cap', cur, e, q1, (hg g (by rw [e]; rfl)).trans q2, r⟩)⟩⟩
theorem wp_appI {w0 W : World} {o : Oper} {a : Act} {K : Act → World → Prop} {Q : Exit → Act → World → Prop} (s x : Operand) (l : List Dm.It) (al : Option Addr) (n c : Nat)
    (ho : o.op = .call { callee := .builtin .append, args := #[s, x], argTypes := #[23, 23] }) (hs : a.eval s = .slice (some ⟨W.heap.size, 0, none⟩) 0 0) (hx : a.eval x = .slice al n c)
    (hw : Below w0.heap.size w0 W) (h : ItsV w0 (.slice al n c) l) (hlen : l.length ≤ 1000000)
    (hK : ∀ r W', Below W.heap.size W W' → (∃ a c, r = .slice a l.length c) → (∀ g, r.ownBlock = some g → W.heap.size ≤ g) → (∀ V, Below w0.heap.size w0 V → (∀ g, r.ownBlock = some g → V.heap[g]? = W'.heap[g]?) → ItsV V r l) → K (a.put o.dst r) W') :
    o.wp Tryd.prog a (W.alloc (.cells #[] 25)) K Q := by
  obtain ⟨r, W', hr, h1, h2, h3, h4⟩ := app_items l al n c hw h hlen (ty := o.type)
  unfold Oper.wp
  simp [execOp, ho, resolve, invoke, builtin, hs, hx, hr, Result.andThen]
  exact hK r W' h1 h2 h3 h4

set_option maxRecDepth 100000 in
set_option maxHeartbeats 2000000 in
theorem rAsSeq_val (x : Dm.It) (vb vl : Value) (w : World) (hp : ItP w vb vl x) (hw : Dm.wt x ≤ 2000000) :
    Calls Tryd.prog 33 #[.agg #[.int .i64 x.tag, vb, vl]] w fun e w' => (∃ a c, e = .returned (.tuple #[.slice a (seqV x).length c, .int .i64 (asE x 48)]) ∧ ItsV w' (.slice a (seqV x).length c) (seqV x)) ∧ Below w.heap.size w w' := by
  obtain ⟨ab, cb, rfl⟩ := hp.2.1.shape x.b.length rfl
  obtain ⟨al, cl, rfl⟩ := hp.2.2.shape
  have hb0 := (Below.refl w.heap.size w).alloc (Nat.le_refl _) (.cells #[.int .i64 x.tag, .slice ab x.b.length cb, .slice al x.l.length cl] 25)
  have q0 := Trip.new w 25 (.int .i64 x.tag) (.slice ab x.b.length cb) (.slice al x.l.length cl)
  have hC := ras_any x _ _ 48 _ (hp.alloc (.cells #[.int .i64 x.tag, .slice ab x.b.length cb, .slice al x.l.length cl] 25)) hw
  obtain ⟨nb, hnb⟩ : ∃ n, x.b.length = n := ⟨_, rfl⟩
  obtain ⟨nl, hnl⟩ : ∃ n, x.l.length = n := ⟨_, rfl⟩
  obtain ⟨E, hE⟩ : ∃ E, asE x 48 = E := ⟨_, rfl⟩
  rw [hnb, hnl] at hb0 q0 hC hp
  rw [hE] at hC
  rw [hnb, hnl, hE]
  have HB0 := Lib.hid hb0; have Q0 := Lib.hid q0; have HP := Lib.hid hp; have HE := Lib.hid hE; have HNB := Lib.hid hnb; have HNL := Lib.hid hnl
  clear hb0 q0 hp hE hnb hnl
  go_enter Tryd.func33, Tryd.ntmps33
  go_wp2_with fail
  refine hC.mono ?_; rintro e w1 ⟨rfl, hb1⟩
  have hB1 := HB0.out.trans (hb1.mono HB0.out.size)
  have q1 := trip_stp Q0.out hb1
  have c0 := q1.cell0; have c1 := q1.cell1; have c2 := q1.cell2; have xl := q1.lt
  have HB1 := Lib.hid hB1; have Q1 := Lib.hid q1
  clear hC hb1 hB1 q1
  by_cases h0 : E = 0
  case neg =>
    have h0' : (E != 0) = true := by simpa using h0
    go_wp2_with fail
    go_ret2
    exact ⟨by unfold seqV; simp only [HE.out, if_neg h0]; exact ⟨none, 0, rfl, ItsV.nil _⟩, HB1.out⟩
  subst h0
  have hz := zero_b HE.out
  have hlen : x.l.length ≤ 1000000 := by have h2 := Dm.wt_eq x; have h3 := Dm.wts_len x.l; omega
  have HI := Lib.hid (HP.out.2.2.below HB1.out); have HL := Lib.hid hlen
  clear hz hlen
  go_wp2_with (first
    | (at_builtin; refine wpList_plain rfl fun Kx hKx => ?_; refine wp_appI (w0 := w1) (W := w1) (.tmp 10) (.tmp 12) x.l al nl cl rfl rfl rfl (Below.refl _ _) HI.out HL.out ?_; rintro r W' hbW ⟨ar, cr, rfl⟩ - hit
       have HBW := Lib.hid hbW; have HIT := Lib.hid (hit W' hbW fun _ _ => rfl); refine hKx _ _ ?_; clear hbW hit)
    | fail)
  go_ret2
  exact ⟨by unfold seqV; simp only [HE.out, if_true]; exact ⟨ar, cr, rfl, HIT.out⟩, HB1.out.trans (HBW.out.mono HB1.out.size)⟩

set_option maxRecDepth 100000 in
set_option maxHeartbeats 2000000 in
theorem rAsInt_val (x : Dm.It) (vb vl : Value) (w : World) (hp : ItP w vb vl x) (hw : Dm.wt x ≤ 2000000) :
    Calls Tryd.prog 26 #[.agg #[.int .i64 x.tag, vb, vl]] w fun e w' => e = .returned (.tuple #[.int .i64 (intV x), .int .i64 (asE x 2)]) ∧ Below w.heap.size w w' := by
  obtain ⟨ab, cb, rfl⟩ := hp.2.1.shape x.b.length rfl
  obtain ⟨al, cl, rfl⟩ := hp.2.2.shape
  have hb0 := (Below.refl w.heap.size w).alloc (Nat.le_refl _) (.cells #[.int .i64 x.tag, .slice ab x.b.length cb, .slice al x.l.length cl] 25)
  have q0 := Trip.new w 25 (.int .i64 x.tag) (.slice ab x.b.length cb) (.slice al x.l.length cl)
  have hC := ras_any x _ _ 2 _ (hp.alloc (.cells #[.int .i64 x.tag, .slice ab x.b.length cb, .slice al x.l.length cl] 25)) hw
  obtain ⟨nb, hnb⟩ : ∃ n, x.b.length = n := ⟨_, rfl⟩
  obtain ⟨nl, hnl⟩ : ∃ n, x.l.length = n := ⟨_, rfl⟩
  obtain ⟨E, hE⟩ : ∃ E, asE x 2 = E := ⟨_, rfl⟩
  rw [hnb, hnl] at hb0 q0 hC hp
  rw [hE] at hC
  rw [hnb, hnl, hE]
  have HB0 := Lib.hid hb0; have Q0 := Lib.hid q0; have HP := Lib.hid hp; have HE := Lib.hid hE; have HNB := Lib.hid hnb; have HNL := Lib.hid hnl
  clear hb0 q0 hp hE hnb hnl
  go_enter Tryd.func26, Tryd.ntmps26
  go_wp2_with fail
  refine hC.mono ?_; rintro e w1 ⟨rfl, hb1⟩
  have hB1 := HB0.out.trans (hb1.mono HB0.out.size)
  have q1 := trip_stp Q0.out hb1
  have c0 := q1.cell0; have c1 := q1.cell1; have c2 := q1.cell2; have xl := q1.lt
  have HB1 := Lib.hid hB1; have Q1 := Lib.hid q1
  clear hC hb1 hB1 q1
  by_cases h0 : E = 0
  case neg =>
    have h0' : (E != 0) = true := by simpa using h0
    go_wp2_with fail
    go_ret2
    exact ⟨by unfold intV; rw [HE.out, if_neg h0]; rfl, HB1.out⟩
  subst h0
  have hz := zero_b HE.out
  have hll := least_len hz
  rw [HNB.out] at hll
  have hr1 := HP.out.2.1.below HB1.out
  cases hxb : x.b with
  | nil => have := HNB.out; rw [hxb] at this; simp at this; omega
  | cons x0 r =>
    rw [hxb] at hr1
    have hby := hr1.all_byte
    obtain ⟨b, off, rfl, hlt, ct⟩ := hr1.cellAt 0 (by simp)
    simp only [List.getElem?_cons_zero, Option.getD_some, Nat.add_zero] at ct
    have hnb := HNB.out
    rw [hxb] at hnb
    have hV : intV x = numI (x0 :: r) := by unfold intV; rw [HE.out, if_pos rfl, hxb]
    have hb0 := hby x0 (by simp)
    have HR1 := Lib.hid hr1; have HBy := Lib.hid hby; have HV := Lib.hid hV; have HNB2 := Lib.hid hnb; have HXB := Lib.hid hxb
    clear hz hr1 hby hV hnb hxb hlt
    obtain ⟨s0, hs0, hsv, hs1⟩ : ∃ s0 : Int, (s0 = if 128 ≤ x0 then -1 else 0) ∧ signI x0 = 256 * s0 + x0 ∧ -1 ≤ s0 ∧ s0 ≤ 0 := by
      refine ⟨if 128 ≤ x0 then -1 else 0, rfl, ?_, ?_⟩
      · unfold signI; split <;> split <;> omega
      · split <;> omega
    -- the value behind k bytes
    obtain ⟨g, hg⟩ : ∃ g : Nat → Int, g = fun k => match k with | 0 => s0 | k + 1 => foldI (signI x0) (r.take k) := ⟨_, rfl⟩
    have g0 : g 0 = s0 := by rw [hg]
    have gs : ∀ k, k < nb → g (k + 1) = 256 * g k + (x0 :: r)[k]?.getD 0 := fun k hk => by
      rw [hg]
      match k, hk with
      | 0, _ => simp [foldI, hsv]
      | k + 1, hk =>
        have := foldI_take (n := signI x0) (r := r) (k := k) (by have := HNB2.out; simp at this; omega)
        simp only [List.getElem?_cons_succ]; exact this
    have gb : ∀ k, k < nb → -36028797018963968 ≤ g k ∧ g k < 36028797018963968 := fun k hk => by
      rw [hg]
      match k, hk with
      | 0, _ => simp only; omega
      | k + 1, hk =>
        have hin := foldI_in (r.take k) (signI x0) 0 (fun z hz => HBy.out z (List.mem_cons_of_mem _ (List.mem_of_mem_take hz))) (by unfold byte at hb0; unfold signI; split <;> omega) (by unfold byte at hb0; unfold signI; split <;> omega)
        have hkl : (r.take k).length = k := by rw [List.length_take]; have := HNB2.out; simp at this; omega
        rw [hkl, Nat.zero_add] at hin
        have hp6 : (256 : Int) ^ k ≤ 281474976710656 := by
          have : k ≤ 6 := by omega
          match k, this with
          | 0, _ => decide
          | 1, _ => decide
          | 2, _ => decide
          | 3, _ => decide
          | 4, _ => decide
          | 5, _ => decide
          | 6, _ => decide
        simp only; omega
    have gl : g nb = numI (x0 :: r) := by
      rw [hg]
      obtain ⟨m, hm⟩ : ∃ m, nb = m + 1 := ⟨nb - 1, by omega⟩
      subst hm
      simp only [numI]
      rw [List.take_of_length_le (by have := HNB2.out; simp at this; omega)]
    have GS := Lib.hid gs; have GB := Lib.hid gb; have GL := Lib.hid gl; have G0 := Lib.hid g0
    clear gs gb gl hg hsv g0
    have hlp : (0 : Int) < (nb : Int) := by omega
    have fin : ∀ n0 : Int, n0 = s0 → True := fun _ _ => trivial
    by_cases h128 : 128 ≤ x0
    all_goals
      first | rw [if_pos h128] at hs0 | rw [if_neg h128] at hs0
      subst hs0
      go_wp2_with fail
      go_loopw [5, 6] (fun n i wr => ∃ k : Nat, n = .int .i64 (g k) ∧ i = .int .i64 k ∧ k ≤ nb ∧ Trip wr w.heap.size 25 (.int .i64 x.tag) (.slice (some ⟨b, off, none⟩) nb cb) (.slice al nl cl) ∧ Below w1.heap.size w1 wr) (fun _ i _ => 10 - (intOf i).toNat)
      case atStart => exact ⟨0, by rw [G0.out], rfl, Nat.zero_le _, Q1.out, Below.refl _ _⟩
      case round =>
        obtain ⟨k, rfl, rfl, hk, hd, hb⟩ := hrel
        have k0 : (0 : Int) ≤ (k : Int) := by omega
        have c0 := hd.cell0; have c1 := hd.cell1; have c2 := hd.cell2
        have HD := Lib.hid hd
        clear hd
        by_cases hlt2 : k < nb
        · have k1 : (k : Int) < (nb : Int) := by omega
          have e1 : IntKind.i64.wrap ((k : Int) + 1) = (k : Int) + 1 := IntWalk.i64_in _ (by omega)
          obtain ⟨_, _, e', _, cx⟩ := (HR1.out.below hb).cellAt k (by rw [HNB2.out]; exact hlt2)
          cases e'
          have hyb : byte ((x0 :: r)[k]?.getD 0) := by
            rw [List.getElem?_eq_getElem (by rw [HNB2.out]; exact hlt2)]
            exact HBy.out _ (List.getElem_mem _)
          have hst := GS.out k hlt2; have hbd := GB.out k hlt2
          obtain ⟨y, hy⟩ : ∃ y, (x0 :: r)[k]?.getD 0 = y := ⟨_, rfl⟩
          rw [hy] at cx hyb hst
          obtain ⟨n, hn⟩ : ∃ n, g k = n := ⟨_, rfl⟩
          rw [hn] at hst hbd ⊢
          unfold byte at hyb
          have e2 : IntKind.i64.wrap (256 * n) = 256 * n := IntWalk.i64_in _ (by omega)
          have e3 : IntKind.i64.wrap y = y := IntWalk.i64_in _ (by omega)
          have e4 : IntKind.i64.wrap (256 * n + y) = 256 * n + y := IntWalk.i64_in _ (by omega)
          have HST := Lib.hid hst
          clear hst hbd hy hn
          go_wp2_with fail
          go_roundw
          case rel => exact ⟨k + 1, by rw [HST.out], by go_num, by omega, HD.out, hb⟩
          case measure => simp [intOf]; omega
        · obtain rfl : k = nb := by omega
          go_wp2_with fail
          go_ret2
          exact ⟨by rw [HV.out, ← GL.out]; rfl, HB1.out.trans (hb.mono HB1.out.size)⟩

set_option maxRecDepth 100000 in
theorem rSeq_mk (v : Value) (l : List Dm.It) (w : World) (h : ItsV w v l) (hlen : l.length ≤ 1000000) :
    Calls Tryd.prog 34 #[v] w fun e w' => (∃ a c, e = .returned (.agg #[.int .i64 48, .slice none 0 0, .slice a l.length c]) ∧
      ItP w' (.slice none 0 0) (.slice a l.length c) (.mk 48 [] l)) ∧ Below w.heap.size w w' := by
  obtain ⟨al, cl, rfl⟩ := h.shape
  obtain ⟨W, hW⟩ : ∃ W, w.alloc (.cells #[.int .i64 0, .slice none 0 0, .slice none 0 0] 25) = W := ⟨_, rfl⟩
  have q0 := Trip.new w 25 (.int .i64 0) (.slice none 0 0) (.slice none 0 0)
  have hb0 := (Below.refl w.heap.size w).alloc (Nat.le_refl _) (.cells #[.int .i64 0, .slice none 0 0, .slice none 0 0] 25)
  have hs : W.heap.size = w.heap.size + 1 := by rw [← hW, World.size_alloc]
  rw [hW] at q0 hb0
  have HW := Lib.hid hW; have Q0 := Lib.hid q0; have HB0 := Lib.hid hb0; have HI := Lib.hid h; have HS := Lib.hid hs
  clear hW q0 hb0 h hs
  go_enter Tryd.func34, Tryd.ntmps34
  go_wp2_with (first
    | (at_builtin; rw [HW.out]; refine wpList_plain rfl fun Kx hKx => ?_; refine wp_appI (w0 := w) (W := W) (.tmp 3) (.tmp 4) l al l.length cl rfl (by rw [HS.out]; rfl) rfl HB0.out HI.out hlen ?_; rintro r W' hbW ⟨ar, cr, rfl⟩ hg hit
       have q4 := trip_stp Q0.out hbW
       have HBW := Lib.hid hbW; have HIT := Lib.hid hit; have HG := Lib.hid hg; have Q4 := Lib.hid q4; refine hKx _ _ ?_; clear hbW hit hg
       have f0 := q4.free 0; have f1 := q4.free 1; have f2 := q4.free 2; have x0 := q4.cell0; have x1 := q4.cell1; have x2 := q4.cell2; have xl := q4.lt
       clear q4)
    | fail)
  refine bodyPost_ret (item_ret1 rfl rfl (trip3 Q4.out _ _ _)) rfl ?_
  have hb5 : Below w.heap.size w _ := bel3' (HB0.out.trans (HBW.out.mono HB0.out.size)) (Nat.le_refl w.heap.size) (.int .i64 48) (.slice none 0 0) (.slice ar l.length cr)
  refine ⟨⟨ar, cr, rfl, (show (Lit.int .i64 48).wf = true by decide), Row.nil _ _, HIT.out _ hb5 fun g hg => ?_⟩, hb5⟩
  have h1 := HG.out g hg; have h2 := HS.out
  exact ((Below.heap_setCell _ ⟨w.heap.size, 2, none⟩ _ g (show g ≠ w.heap.size by omega)).trans (Below.heap_setCell _ ⟨w.heap.size, 1, none⟩ _ g (show g ≠ w.heap.size by omega))).trans (Below.heap_setCell _ ⟨w.heap.size, 0, none⟩ _ g (show g ≠ w.heap.size by omega))
end Go.Proofs.YtpmiihmhfagfoaaDoor
