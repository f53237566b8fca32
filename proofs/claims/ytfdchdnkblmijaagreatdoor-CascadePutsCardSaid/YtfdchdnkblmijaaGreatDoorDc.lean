/-
  The walk over der.may: it calls itself through a closure.
-/
import Derived.Test.YtfdchdnkblmijaaGreatDoorDb
namespace Go.Proofs.YtfdchdnkblmijaaGreatDoor
open Go.RowKit

theorem mays_append (d : Nat) (l m : List Dm.It) : Dm.mays d (l ++ m) = (Dm.mays d l && Dm.mays d m) := by
  induction l with
  | nil => simp [Dm.mays]
  | cons x l ih => simp [Dm.mays, ih, Bool.and_assoc]
theorem mays_false {d : Nat} {l : List Dm.It} {x : Dm.It} (h : x ∈ l) (hx : Dm.may d x = false) : Dm.mays d l = false := by
  induction l with
  | nil => simp at h
  | cons y l ih =>
    unfold Dm.mays
    rcases List.mem_cons.1 h with rfl | h
    · rw [hx]; rfl
    · rw [ih h]; simp
/-- What is asked of a call of may on an item. -/
def MayOn (x : Dm.It) (d : Nat) (W : World) : Prop := ∀ (vb vl : Value) (V : World), Below W.heap.size W V → ItP V vb vl x →
  Calls Tryz.prog 54 #[.agg #[.int .i64 x.tag, vb, vl], .int .i64 d] V fun e w' => e = .returned (.bool (Dm.may d x)) ∧ Below V.heap.size V w'
theorem trip_stp {w w' : World} {B : Nat} {t : TypeId} {x y z : Value} (h : Trip w B t x y z) (s : Below w.heap.size w w') : Trip w' B t x y z := (s.block B h.lt).trans h
theorem Trip.new (w : World) (t : TypeId) (x y z : Value) : Trip (w.alloc (.cells #[x, y, z] t)) w.heap.size t x y z := World.alloc_heap_new w _
theorem Trip.alloc {W : World} {B : Nat} {t : TypeId} {x y z : Value} (h : Trip W B t x y z) (o : Obj) : Trip (W.alloc o) B t x y z := (Below.heap_alloc W o B h.lt).trans h

set_option maxHeartbeats 1000000 in
theorem may1_any (x : Dm.It) (d : Nat) (hd : 1 ≤ d ∧ d ≤ 8) (N : Nat) (w0 w : World) (vb vl : Value) (hm : MayOn x (d - 1) w0) (hb : Below w0.heap.size w0 w) (hN : Boxed w N 3 (.int .i64 d)) (hp : ItP w vb vl x) :
    Calls Tryz.prog 81 #[.agg #[.int .i64 x.tag, vb, vl], .pointer (some ⟨N, 0, none⟩)] w fun e w' => e = .returned (.bool (!Dm.may (d - 1) x)) ∧ Below w.heap.size w w' := by
  obtain ⟨ab, cb, rfl⟩ := hp.2.1.shape x.b.length rfl
  obtain ⟨al, cl, rfl⟩ := hp.2.2.shape
  have q0 := Trip.new w 45 (.int .i64 x.tag) (.slice ab x.b.length cb) (.slice al x.l.length cl)
  have n0 := hN.alloc (.cells #[.int .i64 x.tag, .slice ab x.b.length cb, .slice al x.l.length cl] 45)
  have hb1 := (Below.refl w.heap.size w).alloc (Nat.le_refl _) (.cells #[.int .i64 x.tag, .slice ab x.b.length cb, .slice al x.l.length cl] 45)
  have hC := hm _ _ _ (hb.trans (hb1.mono hb.size)) (hp.alloc (.cells #[.int .i64 x.tag, .slice ab x.b.length cb, .slice al x.l.length cl] 45))
  obtain ⟨y, hy⟩ : ∃ y, Dm.may (d - 1) x = y := ⟨_, rfl⟩
  rw [hy] at hC ⊢
  have e1 : IntKind.i64.wrap ((d : Int) - 1) = ((d - 1 : Nat) : Int) := by rw [IntWalk.i64_in _ (by omega)]; omega
  have c0 := q0.cell0; have c1 := q0.cell1; have c2 := q0.cell2; have cN := n0.cell
  have hne : ¬ N = w.heap.size := by have := hN.lt; omega
  obtain ⟨m, hm2⟩ : ∃ m, d - 1 = m := ⟨_, rfl⟩
  rw [hm2] at hC e1
  clear hp hN hm hb hy q0 n0 hd hm2
  go_enter Tryz.func81, Tryz.ntmps81
  go_wp2_with fail
  refine hC.mono ?_; rintro e w' ⟨rfl, hb⟩
  have hB := hb1.trans (hb.mono hb1.size)
  clear hC hb c0 c1 c2 cN
  go_wp2_with fail
  go_ret
  exact ⟨rfl, hB⟩

set_option maxRecDepth 100000 in
set_option maxHeartbeats 1000000 in
theorem IndexI_any (l : List Dm.It) (d : Nat) (hd : 1 ≤ d ∧ d ≤ 8) (N : Nat) (v : Value) (w : World) (hm : ∀ y ∈ l, MayOn y (d - 1) w) (hN : Boxed w N 3 (.int .i64 d)) (h : ItsV w v l) (hsm : l.length ≤ 140737488355328) :
    Calls Tryz.prog 102 #[v, .func (.func 81) #[] #[.pointer (some ⟨N, 0, none⟩)]] w fun e w' =>
      (∃ r : Int, e = .returned (.int .i64 r) ∧ ((r = -1 ∧ Dm.mays (d - 1) l = true) ∨ (0 ≤ r ∧ Dm.mays (d - 1) l = false))) ∧ Below w.heap.size w w' := by
  obtain ⟨a, cap, rfl⟩ := h.shape
  have HR := Lib.hid h
  have BN := Lib.hid hN
  have HM := Lib.hid hm
  obtain ⟨m, hm2⟩ : ∃ m, d - 1 = m := ⟨_, rfl⟩
  have HM2 := Lib.hid hm2
  rw [hm2]
  clear h hN hm hm2
  go_enter Tryz.func102, Tryz.ntmps102
  go_wp2_with fail
  go_loopw [5, 8] (fun _ i wr => ∃ k : Nat, i = .int .i64 k ∧ k ≤ l.length ∧ Hid (Dm.mays m (l.take k) = true) ∧ Below w.heap.size w wr) (fun _ i _ => l.length - (intOf i).toNat)
  case atStart => exact ⟨0, rfl, Nat.zero_le _, Lib.hid (by simp [Dm.mays]), Below.refl _ _⟩
  case round =>
    obtain ⟨k, rfl, hk, Hall, hb⟩ := hrel
    have k0 : (0 : Int) ≤ (k : Int) := by omega
    have e1 : IntKind.i64.wrap ((k : Int) + 1) = (k : Int) + 1 := IntWalk.i64_in _ (by omega)
    by_cases hlt : k < l.length
    · have k1 : (k : Int) < (l.length : Int) := by omega
      obtain ⟨b, off, ab, cb, al, cl, rfl, hbl, x0, x1, x2, hp⟩ := (HR.out.below hb).at_ k hlt
      obtain ⟨x, hx⟩ : ∃ x, l[k]?.getD Dm.no = x := ⟨_, rfl⟩
      rw [hx] at x0 x1 x2 hp
      have hmem : x ∈ l := by rw [← hx, List.getElem?_eq_getElem hlt]; exact List.getElem_mem hlt
      have htk : l.take (k + 1) = l.take k ++ [x] := by rw [List.take_add_one, ← hx, List.getElem?_eq_getElem hlt]; rfl
      have HT := Lib.hid htk; have HMem := Lib.hid hmem
      have hC := may1_any x d hd N w wr _ _ (HM.out x hmem) hb (boxed_stp BN.out hb) hp
      rw [HM2.out] at hC
      have hbs := hb.size
      clear hx htk hmem hp
      cases hq : Dm.may m x with
      | true =>
        rw [hq] at hC
        have HQ := Lib.hid hq
        clear hq
        go_wp2_with fail
        refine hC.mono ?_; rintro e w2 ⟨rfl, hb2⟩
        have hb3 := hb.trans (hb2.mono hbs)
        clear hC hb2 x0 x1 x2
        go_wp2_with fail
        go_roundw
        case rel => exact ⟨k + 1, by go_num, by omega, Lib.hid (by rw [HT.out, mays_append, Hall.out]; simp [Dm.mays, HQ.out]), hb3⟩
        case measure => simp [intOf]; omega
      | false =>
        rw [hq] at hC
        have HQ := Lib.hid hq
        clear hq
        go_wp2_with fail
        refine hC.mono ?_; rintro e w2 ⟨rfl, hb2⟩
        have hb3 := hb.trans (hb2.mono hbs)
        clear hC hb2 x0 x1 x2
        go_wp2_with fail
        go_ret
        exact ⟨⟨k, rfl, .inr ⟨by omega, mays_false HMem.out HQ.out⟩⟩, hb3⟩
    · obtain rfl : k = l.length := by omega
      go_wp2_with fail
      go_ret
      exact ⟨⟨-1, rfl, .inl ⟨rfl, by have := Hall.out; rwa [List.take_length] at this⟩⟩, hb⟩
theorem ContainsI_any (l : List Dm.It) (d : Nat) (hd : 1 ≤ d ∧ d ≤ 8) (N : Nat) (v : Value) (w : World) (hm : ∀ y ∈ l, MayOn y (d - 1) w) (hN : Boxed w N 3 (.int .i64 d)) (h : ItsV w v l) (hsm : l.length ≤ 140737488355328) :
    Calls Tryz.prog 80 #[v, .func (.func 81) #[] #[.pointer (some ⟨N, 0, none⟩)]] w fun e w' =>
      e = .returned (.bool (!Dm.mays (d - 1) l)) ∧ Below w.heap.size w w' := by
  have hI := IndexI_any l d hd N v w hm hN h hsm
  obtain ⟨a, cap, rfl⟩ := h.shape
  obtain ⟨y, hy⟩ : ∃ y, Dm.mays (d - 1) l = y := ⟨_, rfl⟩
  rw [hy] at hI ⊢
  clear h hy hm hN hd hsm
  go_enter Tryz.func80, Tryz.ntmps80
  go_wp2_with fail
  refine hI.mono ?_; rintro e w1 ⟨⟨r, rfl, hr⟩, hb⟩
  rcases hr with ⟨rfl, rfl⟩ | ⟨h0, rfl⟩
  · go_wp2_with fail
    go_ret
    exact ⟨rfl, hb⟩
  · go_wp2_with fail
    go_ret
    exact ⟨ret_bool (by simp), hb⟩

theorem may_eq (d : Nat) (x : Dm.It) : Dm.may d x = (Dm.known x.tag && decide (1 ≤ d) && Dm.mayB x.tag x.b && (decide (x.tag = 48) || x.l.isEmpty) && Dm.mays (d - 1) x.l) := by
  cases x; rw [Dm.may]; rfl

set_option maxRecDepth 100000 in
set_option maxHeartbeats 4000000 in
theorem may_any (n : Nat) : ∀ (x : Dm.It) (vb vl : Value) (d : Nat) (w : World), Dm.wt x ≤ n → n ≤ 100000000000 → d ≤ 8 → KindsAt w → ItP w vb vl x →
    Calls Tryz.prog 54 #[.agg #[.int .i64 x.tag, vb, vl], .int .i64 d] w fun e w' => e = .returned (.bool (Dm.may d x)) ∧ Below w.heap.size w w' := by
  induction n using Nat.strongRecOn with
  | _ n ih =>
    intro x vb vl d w hw hn hd hk hp
    have hwt := Dm.wt_eq x
    have hll := Dm.wts_len x.l
    have hbl : x.b.length ≤ 140737488355328 := by omega
    have hlb : x.l.length ≤ 140737488355328 := by omega
    have hIH : ∀ (W : World), KindsAt W → ∀ y ∈ x.l, MayOn y (d - 1) W := fun W hK y hy vb' vl' V hb hpy => by
      have := Dm.wts_mem hy
      exact ih (Dm.wt y) (by omega) y vb' vl' (d - 1) V (Nat.le_refl _) (by omega) (by omega) (hK.below hb) hpy
    have HIH := Lib.hid hIH
    clear hIH ih hw hwt hll
    obtain ⟨ab, cb, rfl⟩ := hp.2.1.shape x.b.length rfl
    obtain ⟨al, cl, rfl⟩ := hp.2.2.shape
    obtain ⟨B, hB⟩ : ∃ B, w.heap.size = B := ⟨_, rfl⟩
    obtain ⟨T, hT⟩ : ∃ T, x.tag = T := ⟨_, rfl⟩
    obtain ⟨R, hR⟩ : ∃ R, Dm.may d x = R := ⟨_, rfl⟩
    rw [hT, hR]
    have HT := Lib.hid hT; have HR := Lib.hid hR
    have q0 := (Trip.new w 45 (.int .i64 T) (.slice ab x.b.length cb) (.slice al x.l.length cl)).alloc (.cells #[.int .i64 d] 3)
    have n0 := Boxed.new (w.alloc (.cells #[.int .i64 T, .slice ab x.b.length cb, .slice al x.l.length cl] 45)) 3 (.int .i64 d)
    have hb0 := ((Below.refl w.heap.size w).alloc (Nat.le_refl _) (.cells #[.int .i64 T, .slice ab x.b.length cb, .slice al x.l.length cl] 45)).alloc (by simp) (.cells #[.int .i64 d] 3)
    obtain ⟨W, hW⟩ : ∃ W, (w.alloc (.cells #[.int .i64 T, .slice ab x.b.length cb, .slice al x.l.length cl] 45)).alloc (.cells #[.int .i64 d] 3) = W := ⟨_, rfl⟩
    rw [hW] at q0 n0 hb0
    rw [World.size_alloc] at n0
    rw [hB] at q0 n0
    have k0 := hk.below hb0; have p0 := hp.below hb0
    have HK := Lib.hid k0; have HP := Lib.hid p0
    have HW := Lib.hid hW; have HB := Lib.hid hB
    have hF := find_any T W k0
    have c0 := q0.cell0; have c1 := q0.cell1; have c2 := q0.cell2; have cN := n0.cell
    clear hk hp hW hB k0 p0 hT hR
    go_enter Tryz.func54, Tryz.ntmps54
    go_wp2_with fail
    rw [HW.out]
    (try rw [HB.out])
    (try go_wp2_with fail)
    refine hF.mono ?_; rintro e w1 ⟨hr, hb⟩
    have hB1 := hb0.trans (hb.mono hb0.size)
    have q1 := trip_stp q0 hb; have n1 := boxed_stp n0 hb
    have K1 := Lib.hid (HK.out.below hb); have P1 := Lib.hid (HP.out.below hb)
    have lt1 := q1.lt; have lt2 := n1.lt
    clear hF hb q0 n0 c0 c1 c2 cN HK HP
    have c0 := q1.cell0; have c1 := q1.cell1; have c2 := q1.cell2; have cN := n1.cell
    rcases hr with ⟨hkn, rfl⟩ | ⟨i, hi, hti, rfl⟩
    · have hf : R = false := by rw [← HR.out, may_eq, HT.out, hkn]; simp
      have HF := Lib.hid hf
      clear hkn hf
      go_wp2_with fail
      go_ret
      exact ⟨ret_bool HF.out.symm, hB1.alloc hB1.size _⟩
    have hkn : Dm.known T = true := (known_iff T).2 ⟨i, hi, hti⟩
    have hK0 : ∀ W, Row .u8 W (.slice ab x.b.length cb) x.b → Calls Tryz.prog (kFn i) #[.slice ab x.b.length cb] W fun e w' => e = .returned (.bool (Dm.mayB (kTag i) x.b)) ∧ W = w' := fun W hr => kFn_any i hi _ x.b W hr hbl
    have h5 : kFn i = 144 ∨ kFn i = 52 ∨ kFn i = 145 ∨ kFn i = 146 ∨ kFn i = 149 := by
      match i, hi with
      | 0, _ => exact .inl rfl
      | 1, _ => exact .inr (.inl rfl)
      | 2, _ => exact .inr (.inr (.inl rfl))
      | 3, _ => exact .inr (.inr (.inr (.inl rfl)))
      | 4, _ => exact .inr (.inr (.inr (.inr rfl)))
    have HK0 := Lib.hid hK0
    clear hK0
    generalize kFn i = f at *
    have hB2 := hB1.alloc hB1.size (.cells #[.int .i64 T, .func (.func f) #[] #[]] 109)
    have q2 := q1.alloc (.cells #[.int .i64 T, .func (.func f) #[] #[]] 109); have n2 := n1.alloc (.cells #[.int .i64 T, .func (.func f) #[] #[]] 109)
    have P2 := Lib.hid (P1.out.alloc (.cells #[.int .i64 T, .func (.func f) #[] #[]] 109)); have K2 := Lib.hid (K1.out.alloc (.cells #[.int .i64 T, .func (.func f) #[] #[]] 109))
    obtain ⟨G, hG⟩ : ∃ G, w1.heap.size = G := ⟨_, rfl⟩
    obtain ⟨V, hV⟩ : ∃ V, w1.alloc (.cells #[.int .i64 T, .func (.func f) #[] #[]] 109) = V := ⟨_, rfl⟩
    have g0 := Duo.new w1 109 (.int .i64 T) (.func (.func f) #[] #[])
    rw [hV] at hB2 q2 n2 P2 K2 g0
    rw [hG] at g0
    have HV := Lib.hid hV; have HG := Lib.hid hG; have Hkn := Lib.hid hkn; have Hti := Lib.hid hti
    have e0 := q2.cell0; have e1 := q2.cell1; have e2 := q2.cell2; have eN := n2.cell; have u0 := g0.cell0; have u1 := g0.cell1
    clear hV hG q1 n1 hkn hti P1 K1 hB1
    rcases h5 with rfl | rfl | rfl | rfl | rfl
    all_goals
      by_cases hd1 : 1 ≤ d
      case neg =>
        obtain rfl : d = 0 := by omega
        have hf : R = false := by rw [← HR.out, may_eq]; simp
        have HF := Lib.hid hf
        clear hf
        go_wp2_with fail
        (try rw [HV.out])
        (try rw [HG.out])
        (try go_wp2_with fail)
        go_ret
        exact ⟨ret_bool HF.out.symm, hB2⟩
      have hd2 : ¬ (d : Int) < 1 := by omega
      have hd3 : ¬ d = 0 := by omega
      have hK := HK0.out V P2.out.2.1
      rw [Hti.out] at hK
      obtain ⟨M, hM⟩ : ∃ M, Dm.mayB T x.b = M := ⟨_, rfl⟩
      rw [hM] at hK
      have HM := Lib.hid hM
      clear hM
      cases M with
      | false =>
        have hf : R = false := by rw [← HR.out, may_eq, HT.out, HM.out]; simp
        have HF := Lib.hid hf
        clear hf
        go_wp2_with fail
        (try rw [HV.out])
        (try rw [HG.out])
        (try go_wp2_with fail)
        refine hK.mono ?_; rintro e w2 ⟨rfl, rfl⟩
        clear hK
        go_wp2_with fail
        go_ret
        exact ⟨ret_bool HF.out.symm, hB2⟩
      | true =>
        have hC := ContainsI_any x.l d ⟨hd1, hd⟩ (B + 1) _ V (HIH.out V K2.out) n2 P2.out.2.2 hlb
        obtain ⟨Y, hY⟩ : ∃ Y, Dm.mays (d - 1) x.l = Y := ⟨_, rfl⟩
        rw [hY] at hC
        have HY := Lib.hid hY
        clear hY
        by_cases h48 : T = 48
        · have hf : R = Y := by rw [← HR.out, may_eq, HT.out, Hkn.out, HM.out, HY.out]; simp [h48]; omega
          have HF := Lib.hid hf
          clear hf
          subst h48
          go_wp2_with fail
          (try rw [HV.out])
          (try rw [HG.out])
          (try go_wp2_with fail)
          refine hK.mono ?_; rintro e w2 ⟨rfl, rfl⟩
          clear hK
          go_wp2_with fail
          refine hC.mono ?_; rintro e w3 ⟨rfl, hb⟩
          have hB3 := hB2.trans (hb.mono hB2.size)
          clear hC hb e0 e1 e2 eN u0 u1
          go_wp2_with fail
          go_ret
          exact ⟨ret_bool (by first | (rw [HF.out]; done) | (rw [HF.out]; simp; done)), hB3⟩
        · by_cases hl : x.l.length = 0
          · have hl0 : x.l = [] := List.eq_nil_of_length_eq_zero hl
            have hf : R = Y := by rw [← HR.out, may_eq, HT.out, Hkn.out, HM.out, HY.out, hl0]; simp; omega
            have hlx : ¬ (0 : Int) < (x.l.length : Int) := by omega
            have HF := Lib.hid hf
            clear hf hl0
            go_wp2_with fail
            (try rw [HV.out])
            (try rw [HG.out])
            (try go_wp2_with fail)
            refine hK.mono ?_; rintro e w2 ⟨rfl, rfl⟩
            clear hK
            go_wp2_with fail
            (try rw [hl] at hC)
            refine hC.mono ?_; rintro e w3 ⟨rfl, hb⟩
            have hB3 := hB2.trans (hb.mono hB2.size)
            clear hC hb e0 e1 e2 eN u0 u1
            go_wp2_with fail
            go_ret
            exact ⟨ret_bool (by first | (rw [HF.out]; done) | (rw [HF.out]; simp; done)), hB3⟩
          · have hf : R = false := by
              rw [← HR.out, may_eq, HT.out]
              have : x.l.isEmpty = false := by cases hh : x.l with | nil => rw [hh] at hl; simp at hl | cons => rfl
              rw [this, decide_eq_false h48]; simp
            have hlx : (0 : Int) < (x.l.length : Int) := by omega
            have hly : 0 < x.l.length := by omega
            have hT2 : (T != 48) = true := by simpa using h48
            have hl2 : decide (0 < x.l.length) = true := decide_eq_true hly
            have HF := Lib.hid hf
            clear hf hC
            go_wp2_with fail
            (try rw [HV.out])
            (try rw [HG.out])
            (try go_wp2_with fail)
            refine hK.mono ?_; rintro e w2 ⟨rfl, rfl⟩
            clear hK
            go_wp2_with fail
            go_ret
            exact ⟨ret_bool HF.out.symm, hB2⟩
end Go.Proofs.YtfdchdnkblmijaaGreatDoor
