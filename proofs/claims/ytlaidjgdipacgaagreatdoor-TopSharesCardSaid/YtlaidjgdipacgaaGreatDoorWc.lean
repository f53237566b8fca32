/-
  The texts Db Dc Dd De Df Eb Ru in one. (Merged by wip/lay12m.py.)
-/
import Derived.Test.YtlaidjgdipacgaaGreatDoorDa
import Derived.Test.YtlaidjgdipacgaaGreatDoorRs
import Derived.Laws.EntriesVeiled
import Derived.Laws.BitsLemmas

section
namespace Go.Proofs.YtlaidjgdipacgaaGreatDoor
open Go.RowKit

/-- All of them may stand in a text. -/
def allC (l : List Int) : Bool := l.all okC
set_option maxRecDepth 100000 in
set_option maxHeartbeats 1000000 in
theorem IndexB_any (v : Value) (l : List Int) (w : World) (h : Row .u8 w v l) (hl : l.length ≤ 140737488355328) :
    Calls Tryz.prog 215 #[v, .func (.func 213) #[] #[]] w fun e w' =>
      (∃ r : Int, e = .returned (.int .i64 r) ∧ ((r = -1 ∧ allC l = true) ∨ (0 ≤ r ∧ allC l = false))) ∧ w = w' := by
  have hby := Lib.hid h.all_byte
  obtain ⟨a, cap, rfl⟩ := h.shape l.length rfl
  have HR := Lib.hid h
  clear h
  go_enter Tryz.func215, Tryz.ntmps215
  go_wp2_with fail
  go_loop [5, 8] (fun _ i => ∃ k : Nat, i = .int .i64 k ∧ k ≤ l.length ∧ Hid ((l.take k).all okC = true)) (fun _ i => l.length - (intOf i).toNat)
  case atStart => exact ⟨0, rfl, Nat.zero_le _, Lib.hid (by simp)⟩
  case round =>
    obtain ⟨k, rfl, hk, Hall⟩ := hrel
    have k0 : (0 : Int) ≤ (k : Int) := by omega
    have e1 : IntKind.i64.wrap ((k : Int) + 1) = (k : Int) + 1 := IntWalk.i64_in _ (by omega)
    by_cases hlt : k < l.length
    · have k1 : (k : Int) < (l.length : Int) := by omega
      obtain ⟨b, off, rfl, hbl, hc⟩ := HR.out.cellAt k hlt
      obtain ⟨x, hx⟩ : ∃ x, l[k]?.getD 0 = x := ⟨_, rfl⟩
      rw [hx] at hc
      have hxb : byte x := by rw [← hx, List.getElem?_eq_getElem hlt]; exact hby.out _ (List.getElem_mem hlt)
      have htk : l.take (k + 1) = l.take k ++ [x] := by rw [List.take_add_one, ← hx, List.getElem?_eq_getElem hlt]; rfl
      have HT := Lib.hid htk
      have hC := kChar_any x w hxb
      have hmem : x ∈ l := by rw [← hx, List.getElem?_eq_getElem hlt]; exact List.getElem_mem hlt
      have HM := Lib.hid hmem
      clear hx hxb htk hmem
      cases hq : okC x with
      | true =>
        rw [hq] at hC
        have HQ := Lib.hid hq
        clear hq
        go_wp2_with fail
        refine hC.mono ?_; rintro e w2 ⟨rfl, rfl⟩
        clear hC
        go_wp2_with fail
        go_round
        case rel => exact ⟨k + 1, by go_num, by omega, Lib.hid (by rw [HT.out, List.all_append, Hall.out]; simp [HQ.out])⟩
        case measure => simp [intOf]; omega
      | false =>
        rw [hq] at hC
        have HQ := Lib.hid hq
        clear hq
        go_wp2_with fail
        refine hC.mono ?_; rintro e w2 ⟨rfl, rfl⟩
        clear hC
        go_wp2_with fail
        go_ret
        exact ⟨⟨k, rfl, .inr ⟨by omega, by rw [Bool.eq_false_iff]; intro h; unfold allC at h; have := List.all_eq_true.1 h x HM.out; rw [HQ.out] at this; cases this⟩⟩, rfl⟩
    · obtain rfl : k = l.length := by omega
      go_wp2_with fail
      go_ret
      exact ⟨⟨-1, rfl, .inl ⟨rfl, by have := Hall.out; rwa [List.take_length] at this⟩⟩, rfl⟩

theorem ContainsB_any (v : Value) (l : List Int) (w : World) (h : Row .u8 w v l) (hl : l.length ≤ 140737488355328) :
    Calls Tryz.prog 212 #[v, .func (.func 213) #[] #[]] w fun e w' => e = .returned (.bool (!allC l)) ∧ w = w' := by
  have hI := IndexB_any v l w h hl
  obtain ⟨a, cap, rfl⟩ := h.shape l.length rfl
  clear h
  obtain ⟨y, hy⟩ : ∃ y, allC l = y := ⟨_, rfl⟩
  rw [hy] at hI ⊢
  clear hy
  go_enter Tryz.func212, Tryz.ntmps212
  go_wp2_with fail
  refine hI.mono ?_; rintro e w1 ⟨⟨r, rfl, hr⟩, rfl⟩
  rcases hr with ⟨rfl, rfl⟩ | ⟨h0, rfl⟩
  · go_wp2_with fail
    go_ret
    exact ⟨rfl, rfl⟩
  · go_wp2_with fail
    go_ret
    exact ⟨ret_bool (by simp), rfl⟩
theorem kText_any (v : Value) (l : List Int) (w : World) (h : Row .u8 w v l) (hl : l.length ≤ 140737488355328) :
    Calls Tryz.prog 211 #[v] w fun e w' => e = .returned (.bool (Dm.mayB 12 l)) ∧ w = w' := by
  have hC := ContainsB_any v l w h hl
  have hm : Dm.mayB 12 l = allC l := rfl
  rw [hm]
  obtain ⟨a, cap, rfl⟩ := h.shape l.length rfl
  obtain ⟨x, hx⟩ : ∃ x, allC l = x := ⟨_, rfl⟩
  rw [hx] at hC ⊢
  clear h hx hm
  go_enter Tryz.func211, Tryz.ntmps211
  go_wp2_with fail
  refine hC.mono ?_; rintro e w1 ⟨rfl, rfl⟩
  go_wp2_with fail
  go_ret
  exact ⟨ret_bool (by simp), rfl⟩
/-- A kind's function tells whether the content may be. -/
theorem kFn_any (i : Nat) (hi : i < 5) (v : Value) (l : List Int) (w : World) (h : Row .u8 w v l) (hl : l.length ≤ 140737488355328) :
    Calls Tryz.prog (kFn i) #[v] w fun e w' => e = .returned (.bool (Dm.mayB (kTag i) l)) ∧ w = w' := by
  match i, hi with
  | 0, _ => exact kBool_any v l w h hl
  | 1, _ => exact least_any v l w h hl
  | 2, _ => exact kOct_any v l w
  | 3, _ => exact kText_any v l w h hl
  | 4, _ => exact kSeq_any v l w h

theorem boxed_stp {w w' : World} {B : Nat} {t : TypeId} {v : Value} (h : Boxed w B t v) (s : Below w.heap.size w w') : Boxed w' B t v := (s.block B h.lt).trans h
/-- find's closure. -/
theorem find1_any (x : Int) (f : Value) (t : Int) (N : Nat) (w : World) (hN : Boxed w N 3 (.int .i64 t)) :
    Calls Tryz.prog 95 #[.agg #[.int .i64 x, f], .pointer (some ⟨N, 0, none⟩)] w fun e w' => e = .returned (.bool (decide (x = t))) ∧ Below w.heap.size w w' := by
  have bN := hN.alloc (.cells #[.int .i64 x, f] 111)
  have cN := bN.cell
  have hne : ¬ N = w.heap.size := by have := hN.lt; omega
  clear bN hN
  by_cases hx : x = t
  · subst hx
    go_enter Tryz.func95, Tryz.ntmps95
    go_wp2_with fail
    go_ret
    exact ⟨ret_bool (by simp), (Below.refl _ _).alloc (Nat.le_refl _) _⟩
  · go_enter Tryz.func95, Tryz.ntmps95
    go_wp2_with fail
    go_ret
    exact ⟨ret_bool (by simp [hx, Bool.beq_eq_decide_eq]), (Below.refl _ _).alloc (Nat.le_refl _) _⟩

set_option maxRecDepth 100000 in
set_option maxHeartbeats 1000000 in
theorem IndexK_any (t : Int) (N : Nat) (w : World) (hN : Boxed w N 3 (.int .i64 t)) (hk : KindsAt w) :
    Calls Tryz.prog 94 #[.slice (some ⟨0, 0, none⟩) 5 5, .func (.func 95) #[] #[.pointer (some ⟨N, 0, none⟩)]] w fun e w' =>
      (∃ r : Int, e = .returned (.int .i64 r) ∧ ((r = -1 ∧ Dm.known t = false) ∨ (∃ k : Nat, k < 5 ∧ r = k ∧ kTag k = t))) ∧ Below w.heap.size w w' := by
  have BN := Lib.hid hN; have HK := Lib.hid hk
  clear hN hk
  go_enter Tryz.func94, Tryz.ntmps94
  go_wp2_with fail
  go_loopw [5, 8] (fun _ i wr => ∃ k : Nat, i = .int .i64 k ∧ k ≤ 5 ∧ Hid (∀ j, j < k → kTag j ≠ t) ∧ Below w.heap.size w wr) (fun _ i _ => 5 - (intOf i).toNat)
  case atStart => exact ⟨0, rfl, Nat.zero_le _, Lib.hid (fun j hj => absurd hj (Nat.not_lt_zero _)), Below.refl _ _⟩
  case round =>
    obtain ⟨k, rfl, hk, Hall, hb⟩ := hrel
    have k0 : (0 : Int) ≤ (k : Int) := by omega
    have e1 : IntKind.i64.wrap ((k : Int) + 1) = (k : Int) + 1 := IntWalk.i64_in _ (by omega)
    by_cases hlt : k < 5
    · have k1 : (k : Int) < 5 := by omega
      obtain ⟨c0, c1⟩ := (HK.out.below hb) k hlt
      obtain ⟨x, hx⟩ : ∃ x, kTag k = x := ⟨_, rfl⟩
      rw [hx] at c0
      have HX := Lib.hid hx
      have hC := find1_any x (.func (.func (kFn k)) #[] #[]) t N wr (boxed_stp BN.out hb)
      have hbs := hb.size
      clear hx
      by_cases hq : x = t
      · rw [decide_eq_true hq] at hC
        have HQ := Lib.hid hq
        clear hq
        go_wp2_with fail
        refine hC.mono ?_; rintro e w2 ⟨rfl, hb2⟩
        have hb3 := hb.trans (hb2.mono hbs)
        clear hC hb2 c0 c1
        go_wp2_with fail
        go_ret
        exact ⟨⟨k, rfl, .inr ⟨k, hlt, rfl, by rw [HX.out, HQ.out]⟩⟩, hb3⟩
      · rw [decide_eq_false hq] at hC
        have HQ := Lib.hid hq
        clear hq
        go_wp2_with fail
        refine hC.mono ?_; rintro e w2 ⟨rfl, hb2⟩
        have hb3 := hb.trans (hb2.mono hbs)
        clear hC hb2 c0 c1
        go_wp2_with fail
        go_roundw
        case rel =>
          refine ⟨k + 1, by go_num, by omega, Lib.hid (fun j hj => ?_), hb3⟩
          rcases Nat.lt_or_ge j k with h | h
          · exact Hall.out j h
          · obtain rfl : j = k := by omega
            rw [HX.out]; exact HQ.out
        case measure => simp [intOf]; omega
    · obtain rfl : k = 5 := by omega
      go_wp2_with fail
      go_ret
      refine ⟨⟨-1, rfl, .inl ⟨rfl, ?_⟩⟩, hb⟩
      rw [Bool.eq_false_iff]
      intro h
      obtain ⟨j, hj, e⟩ := (known_iff t).1 h
      exact Hall.out j hj e

theorem kind_ret {tmps : Array Value} {W : World} {g : Nat} {fn : Func} {p q : Tmp} (hr : fn.results = #[.cell p 111, .tmp q]) (hp : tmps.getD p undef = .pointer (some ⟨g, 0, none⟩)) {x y : Value} (hd : Duo W g 111 x y) :
    (results fn tmps).run Tryz.prog W = .ok (.tuple #[.agg #[x, y], tmps.getD q undef]) W :=
  results_cell_tmp hr _ _ g _ _ _ _ hp hd Tryz.underlying111 rfl (by kernel_rfl)
set_option maxRecDepth 100000 in
set_option maxHeartbeats 1000000 in
theorem find_any (t : Int) (w : World) (hk : KindsAt w) :
    Calls Tryz.prog 60 #[.int .i64 t] w fun e w' =>
      ((Dm.known t = false ∧ e = .returned (.tuple #[.agg #[.int .i64 0, .nilFunc], .bool false])) ∨ (∃ i, i < 5 ∧ kTag i = t ∧ e = .returned (.tuple #[.agg #[.int .i64 t, .func (.func (kFn i)) #[] #[]], .bool true]))) ∧ Below w.heap.size w w' := by
  obtain ⟨B, hB⟩ : ∃ B, w.heap.size = B := ⟨_, rfl⟩
  have hBG : 0 < B := by have := hk.lt; omega
  have hB0 : ¬ B = 0 := by omega
  have n0 := (Boxed.new w 3 (.int .i64 t)).alloc (.cells #[.int .i64 0, .nilFunc] 111)
  have z0 := Duo.new' (w.alloc (.cells #[.int .i64 t] 3)) 111 (.int .i64 0) .nilFunc (B + 1) (by simp [hB])
  have hb0 := ((Below.refl w.heap.size w).alloc (Nat.le_refl _) (.cells #[.int .i64 t] 3)).alloc (by simp) (.cells #[.int .i64 0, .nilFunc] 111)
  obtain ⟨W, hW⟩ : ∃ W, (w.alloc (.cells #[.int .i64 t] 3)).alloc (.cells #[.int .i64 0, .nilFunc] 111) = W := ⟨_, rfl⟩
  rw [hW] at n0 z0 hb0
  rw [hB] at n0
  have HW := Lib.hid hW; have HB := Lib.hid hB
  have k0 := hk.below hb0
  have hI := IndexK_any t B W n0 k0
  have K0 := Lib.hid k0
  clear hW hB k0 hk n0
  go_enter Tryz.func60, Tryz.ntmps60
  go_wp2_with fail
  rw [HW.out]
  (try rw [HB.out])
  (try go_wp2_with fail)
  refine hI.mono ?_; rintro e w1 ⟨⟨r, rfl, hr⟩, hb⟩
  have hB1 := hb0.trans (hb.mono hb0.size)
  have z1 := z0.stp hb
  have k1 := K0.out.below hb
  have wB : w.heap.size ≤ B + 1 := by have := HB.out; omega
  have WB := Lib.hid wB
  have f0 := z1.free 0; have f1 := z1.free 1; have d0 := z1.cell0; have d1 := z1.cell1; have ltz := z1.lt
  clear hI hb z0 hb0 wB
  rcases hr with ⟨rfl, hn⟩ | ⟨k, hk, rfl, ht⟩
  · have HN := Lib.hid hn
    clear hn k1
    go_wp2_with fail
    have hzz := (z1.set0 (.int .i64 0)).set1 .nilFunc
    refine bodyPost_ret (kind_ret rfl rfl hzz) rfl ?_
    exact ⟨.inl ⟨HN.out, rfl⟩, (hB1.setCell WB.out _).setCell WB.out _⟩
  · obtain ⟨c0, c1⟩ := k1 k hk
    rw [ht] at c0
    have HT := Lib.hid ht
    have q0 : (0 : Int) ≤ (k : Int) := by omega
    have q1 : (k : Int) < 5 := by omega
    have n1 : ¬ B + 1 = 0 := by omega
    have n2 : ¬ 0 = B + 1 := by omega
    clear k1 ht
    go_wp2_with fail
    have hzz := (z1.set0 (.int .i64 t)).set1 (.func (.func (kFn k)) #[] #[])
    refine bodyPost_ret (kind_ret rfl rfl hzz) rfl ?_
    exact ⟨.inr ⟨k, hk, HT.out, rfl⟩, (hB1.setCell WB.out _).setCell WB.out _⟩
end Go.Proofs.YtlaidjgdipacgaaGreatDoor
end

section
namespace Go.Proofs.YtlaidjgdipacgaaGreatDoor
open Go.RowKit

theorem mays_append (d : Nat) (l m : List Dm.It) : Dm.mays d (l ++ m) = (Dm.mays d l && Dm.mays d m) := by
  induction l with
  | nil => simp [Dm.mays]
  | cons x l ih => simp [Dm.mays, ih, Bool.and_assoc]
theorem mays_false {d : Nat} {l : List Dm.It} {x : Dm.It} (h : x ∈ l) (hx : Dm.may d x = false) : Dm.mays d l = false := by
  induction l with
  | nil => simp at h
  | cons y l ih =>
    unfold Dm.mays
    rcases List.mem_cons.1 h with rfl | h
    · rw [hx]; rfl
    · rw [ih h]; simp
/-- What is asked of a call of may on an item. -/
def MayOn (x : Dm.It) (d : Nat) (W : World) : Prop := ∀ (vb vl : Value) (V : World), Below W.heap.size W V → ItP V vb vl x →
  Calls Tryz.prog 35 #[.agg #[.int .i64 x.tag, vb, vl], .int .i64 d] V fun e w' => e = .returned (.bool (Dm.may d x)) ∧ Below V.heap.size V w'
theorem trip_stp {w w' : World} {B : Nat} {t : TypeId} {x y z : Value} (h : Trip w B t x y z) (s : Below w.heap.size w w') : Trip w' B t x y z := (s.block B h.lt).trans h
theorem Trip.new (w : World) (t : TypeId) (x y z : Value) : Trip (w.alloc (.cells #[x, y, z] t)) w.heap.size t x y z := World.alloc_heap_new w _
theorem Trip.alloc {W : World} {B : Nat} {t : TypeId} {x y z : Value} (h : Trip W B t x y z) (o : Obj) : Trip (W.alloc o) B t x y z := (Below.heap_alloc W o B h.lt).trans h

set_option maxHeartbeats 1000000 in
theorem may1_any (x : Dm.It) (d : Nat) (hd : 1 ≤ d ∧ d ≤ 8) (N : Nat) (w0 w : World) (vb vl : Value) (hm : MayOn x (d - 1) w0) (hb : Below w0.heap.size w0 w) (hN : Boxed w N 3 (.int .i64 d)) (hp : ItP w vb vl x) :
    Calls Tryz.prog 62 #[.agg #[.int .i64 x.tag, vb, vl], .pointer (some ⟨N, 0, none⟩)] w fun e w' => e = .returned (.bool (!Dm.may (d - 1) x)) ∧ Below w.heap.size w w' := by
  obtain ⟨ab, cb, rfl⟩ := hp.2.1.shape x.b.length rfl
  obtain ⟨al, cl, rfl⟩ := hp.2.2.shape
  have q0 := Trip.new w 47 (.int .i64 x.tag) (.slice ab x.b.length cb) (.slice al x.l.length cl)
  have n0 := hN.alloc (.cells #[.int .i64 x.tag, .slice ab x.b.length cb, .slice al x.l.length cl] 47)
  have hb1 := (Below.refl w.heap.size w).alloc (Nat.le_refl _) (.cells #[.int .i64 x.tag, .slice ab x.b.length cb, .slice al x.l.length cl] 47)
  have hC := hm _ _ _ (hb.trans (hb1.mono hb.size)) (hp.alloc (.cells #[.int .i64 x.tag, .slice ab x.b.length cb, .slice al x.l.length cl] 47))
  obtain ⟨y, hy⟩ : ∃ y, Dm.may (d - 1) x = y := ⟨_, rfl⟩
  rw [hy] at hC ⊢
  have e1 : IntKind.i64.wrap ((d : Int) - 1) = ((d - 1 : Nat) : Int) := by rw [IntWalk.i64_in _ (by omega)]; omega
  have c0 := q0.cell0; have c1 := q0.cell1; have c2 := q0.cell2; have cN := n0.cell
  have hne : ¬ N = w.heap.size := by have := hN.lt; omega
  obtain ⟨m, hm2⟩ : ∃ m, d - 1 = m := ⟨_, rfl⟩
  rw [hm2] at hC e1
  clear hp hN hm hb hy q0 n0 hd hm2
  go_enter Tryz.func62, Tryz.ntmps62
  go_wp2_with fail
  refine hC.mono ?_; rintro e w' ⟨rfl, hb⟩
  have hB := hb1.trans (hb.mono hb1.size)
  clear hC hb c0 c1 c2 cN
  go_wp2_with fail
  go_ret
  exact ⟨rfl, hB⟩

set_option maxRecDepth 100000 in
set_option maxHeartbeats 1000000 in
theorem IndexI_any (l : List Dm.It) (d : Nat) (hd : 1 ≤ d ∧ d ≤ 8) (N : Nat) (v : Value) (w : World) (hm : ∀ y ∈ l, MayOn y (d - 1) w) (hN : Boxed w N 3 (.int .i64 d)) (h : ItsV w v l) (hsm : l.length ≤ 140737488355328) :
    Calls Tryz.prog 96 #[v, .func (.func 62) #[] #[.pointer (some ⟨N, 0, none⟩)]] w fun e w' =>
      (∃ r : Int, e = .returned (.int .i64 r) ∧ ((r = -1 ∧ Dm.mays (d - 1) l = true) ∨ (0 ≤ r ∧ Dm.mays (d - 1) l = false))) ∧ Below w.heap.size w w' := by
  obtain ⟨a, cap, rfl⟩ := h.shape
  have HR := Lib.hid h
  have BN := Lib.hid hN
  have HM := Lib.hid hm
  obtain ⟨m, hm2⟩ : ∃ m, d - 1 = m := ⟨_, rfl⟩
  have HM2 := Lib.hid hm2
  rw [hm2]
  clear h hN hm hm2
  go_enter Tryz.func96, Tryz.ntmps96
  go_wp2_with fail
  go_loopw [5, 8] (fun _ i wr => ∃ k : Nat, i = .int .i64 k ∧ k ≤ l.length ∧ Hid (Dm.mays m (l.take k) = true) ∧ Below w.heap.size w wr) (fun _ i _ => l.length - (intOf i).toNat)
  case atStart => exact ⟨0, rfl, Nat.zero_le _, Lib.hid (by simp [Dm.mays]), Below.refl _ _⟩
  case round =>
    obtain ⟨k, rfl, hk, Hall, hb⟩ := hrel
    have k0 : (0 : Int) ≤ (k : Int) := by omega
    have e1 : IntKind.i64.wrap ((k : Int) + 1) = (k : Int) + 1 := IntWalk.i64_in _ (by omega)
    by_cases hlt : k < l.length
    · have k1 : (k : Int) < (l.length : Int) := by omega
      obtain ⟨b, off, ab, cb, al, cl, rfl, hbl, x0, x1, x2, hp⟩ := (HR.out.below hb).at_ k hlt
      obtain ⟨x, hx⟩ : ∃ x, l[k]?.getD Dm.no = x := ⟨_, rfl⟩
      rw [hx] at x0 x1 x2 hp
      have hmem : x ∈ l := by rw [← hx, List.getElem?_eq_getElem hlt]; exact List.getElem_mem hlt
      have htk : l.take (k + 1) = l.take k ++ [x] := by rw [List.take_add_one, ← hx, List.getElem?_eq_getElem hlt]; rfl
      have HT := Lib.hid htk; have HMem := Lib.hid hmem
      have hC := may1_any x d hd N w wr _ _ (HM.out x hmem) hb (boxed_stp BN.out hb) hp
      rw [HM2.out] at hC
      have hbs := hb.size
      clear hx htk hmem hp
      cases hq : Dm.may m x with
      | true =>
        rw [hq] at hC
        have HQ := Lib.hid hq
        clear hq
        go_wp2_with fail
        refine hC.mono ?_; rintro e w2 ⟨rfl, hb2⟩
        have hb3 := hb.trans (hb2.mono hbs)
        clear hC hb2 x0 x1 x2
        go_wp2_with fail
        go_roundw
        case rel => exact ⟨k + 1, by go_num, by omega, Lib.hid (by rw [HT.out, mays_append, Hall.out]; simp [Dm.mays, HQ.out]), hb3⟩
        case measure => simp [intOf]; omega
      | false =>
        rw [hq] at hC
        have HQ := Lib.hid hq
        clear hq
        go_wp2_with fail
        refine hC.mono ?_; rintro e w2 ⟨rfl, hb2⟩
        have hb3 := hb.trans (hb2.mono hbs)
        clear hC hb2 x0 x1 x2
        go_wp2_with fail
        go_ret
        exact ⟨⟨k, rfl, .inr ⟨by omega, mays_false HMem.out HQ.out⟩⟩, hb3⟩
    · obtain rfl : k = l.length := by omega
      go_wp2_with fail
      go_ret
      exact ⟨⟨-1, rfl, .inl ⟨rfl, by have := Hall.out; rwa [List.take_length] at this⟩⟩, hb⟩
theorem ContainsI_any (l : List Dm.It) (d : Nat) (hd : 1 ≤ d ∧ d ≤ 8) (N : Nat) (v : Value) (w : World) (hm : ∀ y ∈ l, MayOn y (d - 1) w) (hN : Boxed w N 3 (.int .i64 d)) (h : ItsV w v l) (hsm : l.length ≤ 140737488355328) :
    Calls Tryz.prog 61 #[v, .func (.func 62) #[] #[.pointer (some ⟨N, 0, none⟩)]] w fun e w' =>
      e = .returned (.bool (!Dm.mays (d - 1) l)) ∧ Below w.heap.size w w' := by
  have hI := IndexI_any l d hd N v w hm hN h hsm
  obtain ⟨a, cap, rfl⟩ := h.shape
  obtain ⟨y, hy⟩ : ∃ y, Dm.mays (d - 1) l = y := ⟨_, rfl⟩
  rw [hy] at hI ⊢
  clear h hy hm hN hd hsm
  go_enter Tryz.func61, Tryz.ntmps61
  go_wp2_with fail
  refine hI.mono ?_; rintro e w1 ⟨⟨r, rfl, hr⟩, hb⟩
  rcases hr with ⟨rfl, rfl⟩ | ⟨h0, rfl⟩
  · go_wp2_with fail
    go_ret
    exact ⟨rfl, hb⟩
  · go_wp2_with fail
    go_ret
    exact ⟨ret_bool (by simp), hb⟩

theorem may_eq (d : Nat) (x : Dm.It) : Dm.may d x = (Dm.known x.tag && decide (1 ≤ d) && Dm.mayB x.tag x.b && (decide (x.tag = 48) || x.l.isEmpty) && Dm.mays (d - 1) x.l) := by
  cases x; rw [Dm.may]; rfl

set_option maxRecDepth 100000 in
set_option maxHeartbeats 4000000 in
theorem may_any (n : Nat) : ∀ (x : Dm.It) (vb vl : Value) (d : Nat) (w : World), Dm.wt x ≤ n → n ≤ 100000000000 → d ≤ 8 → KindsAt w → ItP w vb vl x →
    Calls Tryz.prog 35 #[.agg #[.int .i64 x.tag, vb, vl], .int .i64 d] w fun e w' => e = .returned (.bool (Dm.may d x)) ∧ Below w.heap.size w w' := by
  induction n using Nat.strongRecOn with
  | _ n ih =>
    intro x vb vl d w hw hn hd hk hp
    have hwt := Dm.wt_eq x
    have hll := Dm.wts_len x.l
    have hbl : x.b.length ≤ 140737488355328 := by omega
    have hlb : x.l.length ≤ 140737488355328 := by omega
    have hIH : ∀ (W : World), KindsAt W → ∀ y ∈ x.l, MayOn y (d - 1) W := fun W hK y hy vb' vl' V hb hpy => by
      have := Dm.wts_mem hy
      exact ih (Dm.wt y) (by omega) y vb' vl' (d - 1) V (Nat.le_refl _) (by omega) (by omega) (hK.below hb) hpy
    have HIH := Lib.hid hIH
    clear hIH ih hw hwt hll
    obtain ⟨ab, cb, rfl⟩ := hp.2.1.shape x.b.length rfl
    obtain ⟨al, cl, rfl⟩ := hp.2.2.shape
    obtain ⟨B, hB⟩ : ∃ B, w.heap.size = B := ⟨_, rfl⟩
    obtain ⟨T, hT⟩ : ∃ T, x.tag = T := ⟨_, rfl⟩
    obtain ⟨R, hR⟩ : ∃ R, Dm.may d x = R := ⟨_, rfl⟩
    rw [hT, hR]
    have HT := Lib.hid hT; have HR := Lib.hid hR
    have q0 := (Trip.new w 47 (.int .i64 T) (.slice ab x.b.length cb) (.slice al x.l.length cl)).alloc (.cells #[.int .i64 d] 3)
    have n0 := Boxed.new (w.alloc (.cells #[.int .i64 T, .slice ab x.b.length cb, .slice al x.l.length cl] 47)) 3 (.int .i64 d)
    have hb0 := ((Below.refl w.heap.size w).alloc (Nat.le_refl _) (.cells #[.int .i64 T, .slice ab x.b.length cb, .slice al x.l.length cl] 47)).alloc (by simp) (.cells #[.int .i64 d] 3)
    obtain ⟨W, hW⟩ : ∃ W, (w.alloc (.cells #[.int .i64 T, .slice ab x.b.length cb, .slice al x.l.length cl] 47)).alloc (.cells #[.int .i64 d] 3) = W := ⟨_, rfl⟩
    rw [hW] at q0 n0 hb0
    rw [World.size_alloc] at n0
    rw [hB] at q0 n0
    have k0 := hk.below hb0; have p0 := hp.below hb0
    have HK := Lib.hid k0; have HP := Lib.hid p0
    have HW := Lib.hid hW; have HB := Lib.hid hB
    have hF := find_any T W k0
    have c0 := q0.cell0; have c1 := q0.cell1; have c2 := q0.cell2; have cN := n0.cell
    clear hk hp hW hB k0 p0 hT hR
    go_enter Tryz.func35, Tryz.ntmps35
    go_wp2_with fail
    rw [HW.out]
    (try rw [HB.out])
    (try go_wp2_with fail)
    refine hF.mono ?_; rintro e w1 ⟨hr, hb⟩
    have hB1 := hb0.trans (hb.mono hb0.size)
    have q1 := trip_stp q0 hb; have n1 := boxed_stp n0 hb
    have K1 := Lib.hid (HK.out.below hb); have P1 := Lib.hid (HP.out.below hb)
    have lt1 := q1.lt; have lt2 := n1.lt
    clear hF hb q0 n0 c0 c1 c2 cN HK HP
    have c0 := q1.cell0; have c1 := q1.cell1; have c2 := q1.cell2; have cN := n1.cell
    rcases hr with ⟨hkn, rfl⟩ | ⟨i, hi, hti, rfl⟩
    · have hf : R = false := by rw [← HR.out, may_eq, HT.out, hkn]; simp
      have HF := Lib.hid hf
      clear hkn hf
      go_wp2_with fail
      go_ret
      exact ⟨ret_bool HF.out.symm, hB1.alloc hB1.size _⟩
    have hkn : Dm.known T = true := (known_iff T).2 ⟨i, hi, hti⟩
    have hK0 : ∀ W, Row .u8 W (.slice ab x.b.length cb) x.b → Calls Tryz.prog (kFn i) #[.slice ab x.b.length cb] W fun e w' => e = .returned (.bool (Dm.mayB (kTag i) x.b)) ∧ W = w' := fun W hr => kFn_any i hi _ x.b W hr hbl
    have h5 : kFn i = 209 ∨ kFn i = 37 ∨ kFn i = 210 ∨ kFn i = 211 ∨ kFn i = 214 := by
      match i, hi with
      | 0, _ => exact .inl rfl
      | 1, _ => exact .inr (.inl rfl)
      | 2, _ => exact .inr (.inr (.inl rfl))
      | 3, _ => exact .inr (.inr (.inr (.inl rfl)))
      | 4, _ => exact .inr (.inr (.inr (.inr rfl)))
    have HK0 := Lib.hid hK0
    clear hK0
    generalize kFn i = f at *
    have hB2 := hB1.alloc hB1.size (.cells #[.int .i64 T, .func (.func f) #[] #[]] 111)
    have q2 := q1.alloc (.cells #[.int .i64 T, .func (.func f) #[] #[]] 111); have n2 := n1.alloc (.cells #[.int .i64 T, .func (.func f) #[] #[]] 111)
    have P2 := Lib.hid (P1.out.alloc (.cells #[.int .i64 T, .func (.func f) #[] #[]] 111)); have K2 := Lib.hid (K1.out.alloc (.cells #[.int .i64 T, .func (.func f) #[] #[]] 111))
    obtain ⟨G, hG⟩ : ∃ G, w1.heap.size = G := ⟨_, rfl⟩
    obtain ⟨V, hV⟩ : ∃ V, w1.alloc (.cells #[.int .i64 T, .func (.func f) #[] #[]] 111) = V := ⟨_, rfl⟩
    have g0 := Duo.new w1 111 (.int .i64 T) (.func (.func f) #[] #[])
    rw [hV] at hB2 q2 n2 P2 K2 g0
    rw [hG] at g0
    have HV := Lib.hid hV; have HG := Lib.hid hG; have Hkn := Lib.hid hkn; have Hti := Lib.hid hti
    have e0 := q2.cell0; have e1 := q2.cell1; have e2 := q2.cell2; have eN := n2.cell; have u0 := g0.cell0; have u1 := g0.cell1
    clear hV hG q1 n1 hkn hti P1 K1 hB1
    rcases h5 with rfl | rfl | rfl | rfl | rfl
    all_goals
      by_cases hd1 : 1 ≤ d
      case neg =>
        obtain rfl : d = 0 := by omega
        have hf : R = false := by rw [← HR.out, may_eq]; simp
        have HF := Lib.hid hf
        clear hf
        go_wp2_with fail
        (try rw [HV.out])
        (try rw [HG.out])
        (try go_wp2_with fail)
        go_ret
        exact ⟨ret_bool HF.out.symm, hB2⟩
      have hd2 : ¬ (d : Int) < 1 := by omega
      have hd3 : ¬ d = 0 := by omega
      have hK := HK0.out V P2.out.2.1
      rw [Hti.out] at hK
      obtain ⟨M, hM⟩ : ∃ M, Dm.mayB T x.b = M := ⟨_, rfl⟩
      rw [hM] at hK
      have HM := Lib.hid hM
      clear hM
      cases M with
      | false =>
        have hf : R = false := by rw [← HR.out, may_eq, HT.out, HM.out]; simp
        have HF := Lib.hid hf
        clear hf
        go_wp2_with fail
        (try rw [HV.out])
        (try rw [HG.out])
        (try go_wp2_with fail)
        refine hK.mono ?_; rintro e w2 ⟨rfl, rfl⟩
        clear hK
        go_wp2_with fail
        go_ret
        exact ⟨ret_bool HF.out.symm, hB2⟩
      | true =>
        have hC := ContainsI_any x.l d ⟨hd1, hd⟩ (B + 1) _ V (HIH.out V K2.out) n2 P2.out.2.2 hlb
        obtain ⟨Y, hY⟩ : ∃ Y, Dm.mays (d - 1) x.l = Y := ⟨_, rfl⟩
        rw [hY] at hC
        have HY := Lib.hid hY
        clear hY
        by_cases h48 : T = 48
        · have hf : R = Y := by rw [← HR.out, may_eq, HT.out, Hkn.out, HM.out, HY.out]; simp [h48]; omega
          have HF := Lib.hid hf
          clear hf
          subst h48
          go_wp2_with fail
          (try rw [HV.out])
          (try rw [HG.out])
          (try go_wp2_with fail)
          refine hK.mono ?_; rintro e w2 ⟨rfl, rfl⟩
          clear hK
          go_wp2_with fail
          refine hC.mono ?_; rintro e w3 ⟨rfl, hb⟩
          have hB3 := hB2.trans (hb.mono hB2.size)
          clear hC hb e0 e1 e2 eN u0 u1
          go_wp2_with fail
          go_ret
          exact ⟨ret_bool (by first | (rw [HF.out]; done) | (rw [HF.out]; simp; done)), hB3⟩
        · by_cases hl : x.l.length = 0
          · have hl0 : x.l = [] := List.eq_nil_of_length_eq_zero hl
            have hf : R = Y := by rw [← HR.out, may_eq, HT.out, Hkn.out, HM.out, HY.out, hl0]; simp; omega
            have hlx : ¬ (0 : Int) < (x.l.length : Int) := by omega
            have HF := Lib.hid hf
            clear hf hl0
            go_wp2_with fail
            (try rw [HV.out])
            (try rw [HG.out])
            (try go_wp2_with fail)
            refine hK.mono ?_; rintro e w2 ⟨rfl, rfl⟩
            clear hK
            go_wp2_with fail
            (try rw [hl] at hC)
            refine hC.mono ?_; rintro e w3 ⟨rfl, hb⟩
            have hB3 := hB2.trans (hb.mono hB2.size)
            clear hC hb e0 e1 e2 eN u0 u1
            go_wp2_with fail
            go_ret
            exact ⟨ret_bool (by first | (rw [HF.out]; done) | (rw [HF.out]; simp; done)), hB3⟩
          · have hf : R = false := by
              rw [← HR.out, may_eq, HT.out]
              have : x.l.isEmpty = false := by cases hh : x.l with | nil => rw [hh] at hl; simp at hl | cons => rfl
              rw [this, decide_eq_false h48]; simp
            have hlx : (0 : Int) < (x.l.length : Int) := by omega
            have hly : 0 < x.l.length := by omega
            have hT2 : (T != 48) = true := by simpa using h48
            have hl2 : decide (0 < x.l.length) = true := decide_eq_true hly
            have HF := Lib.hid hf
            clear hf hC
            go_wp2_with fail
            (try rw [HV.out])
            (try rw [HG.out])
            (try go_wp2_with fail)
            refine hK.mono ?_; rintro e w2 ⟨rfl, rfl⟩
            clear hK
            go_wp2_with fail
            go_ret
            exact ⟨ret_bool HF.out.symm, hB2⟩
end Go.Proofs.YtlaidjgdipacgaaGreatDoor
end

section
namespace Go.Proofs.YtlaidjgdipacgaaGreatDoor
open Go.RowKit

abbrev OwnB (w : World) (base : Nat) (v : Value) (l : List Int) : Prop := w.ownsRow base 5 1 v l.length (l.map (Value.int .u8))
/-- What an append leaves. -/
structure Appd (w w' : World) (base : Nat) (v v' : Value) (l : List Int) : Prop where
  own : OwnB w' base v' l
  grown : w.grownBy w' v.ownBlock
  blk : v'.ownBlock = v.ownBlock ∨ v'.ownBlock = some w.heap.size
theorem run_append_keep {w : World} (base : Nat) (ty : TypeId) (v : Value) (ms ns : List Int) (hown : OwnB w base v ms) (xv : Value) (hrow : Row .u8 w xv ns) (h63 : ms.length + ns.length ≤ 10000000) (hbase : base ≤ w.heap.size) :
    ∃ v' w', (Builtin.append_ #[22, 22] ty #[v, xv]).run Tryz.prog w = .ok v' w' ∧ Appd w w' base v v' (ms ++ ns) := by
  obtain ⟨i0, hi, hz0, hz1, hz2⟩ := info_parts info_u8
  obtain ⟨ad, cap, rfl, hlc, _, hnc, _, hc⟩ := hrow
  cases ad with
  | none =>
    have hl : ns = [] := by
      apply Classical.byContradiction; intro hne
      obtain ⟨b, off, e', _⟩ := hc hne; cases e'
    subst hl
    obtain rfl : cap = 0 := hnc rfl
    refine ⟨v, w, run_append_owned_none (P := Tryz.prog) (w := w) base _ ty 5 i0 1 Tryz.underlying22 hi v ms.length _ hown, by simpa [OwnB] using hown, ⟨rfl, rfl, rfl, Nat.le_refl _, fun _ _ _ => rfl⟩, .inl rfl⟩
  | some ad =>
    have hnews : ∀ j u, (ns.map (Value.int .u8))[j]? = some u → w.cell? (ad.add j) = some u := by
      intro j u hj
      have hjl : j < ns.length := by
        apply Classical.byContradiction; intro hn
        rw [List.getElem?_eq_none (by simp; omega)] at hj; cases hj
      obtain ⟨b, off, e', hb, hcell⟩ := hc (by rintro rfl; simp at hjl)
      cases e'
      rw [List.getElem?_map, List.getElem?_eq_getElem hjl] at hj
      simp only [Option.map_some, Option.some.injEq] at hj
      rw [addr_add, hcell j hjl, ← hj, List.getElem?_eq_getElem hjl]; rfl
    have h1 : ∀ u ∈ ns.map (Value.int .u8), u.oneCell' = true := by
      intro u hu
      obtain ⟨y, _, rfl⟩ := List.mem_map.1 hu
      rfl
    obtain ⟨v', w', hr, h2, h3, h4⟩ := run_append_own (P := Tryz.prog) w base 22 ty 5 i0 (.int .u8 0) 1 1 Tryz.underlying22 hi hz0 hz1 hz2 rfl (by decide) v ms.length _ hown ad ns.length cap (ns.map (Value.int .u8)) (by simp) hnews h1 (by unfold maxLen; omega) (by omega) hbase
    refine ⟨v', w', hr, ⟨by unfold OwnB; rw [List.length_append, List.map_append]; exact h2, h3, ?_⟩⟩
    rcases hown.2 with ⟨rfl, h0⟩ | ⟨g, cp, cur, rfl, hbg, hg, hnc', hcm, hcs, htake⟩
    · by_cases hm : ns.length = 0
      · have := h4.2 ⟨rfl, hm⟩
        subst this; exact .inl rfl
      · have hr2 := run_append_nil (P := Tryz.prog) w 22 ty 5 i0 (.int .u8 0) Tryz.underlying22 hi hz0 ad ns.length cap (ns.map (Value.int .u8)) (by simp [hz1]) hnews (by omega) (by omega) (by rw [hz2]; omega)
        rw [hr2] at hr
        injection hr with hr _
        subst hr; exact .inr rfl
    · by_cases hroom : ms.length + ns.length ≤ cp
      · have hr2 := run_append_room (P := Tryz.prog) w 22 ty 5 i0 Tryz.underlying22 hi g ms.length cp cur hg ad ns.length cap (ns.map (Value.int .u8)) (by simp [hz1]) hnews h1 hroom (by rw [hz1, hcs]; simp; omega)
        rw [hr2] at hr
        injection hr with hr _
        subst hr; exact .inl rfl
      · have holds := hown.cells (g := g) rfl
        have hr2 := run_append_grow (P := Tryz.prog) w 22 ty 5 i0 (.int .u8 0) Tryz.underlying22 hi hz0 ⟨g, 0, none⟩ ms.length cp (ms.map (Value.int .u8)) (by simp [hz1]) holds ad ns.length cap (ns.map (Value.int .u8)) (by simp [hz1]) hnews (by omega) (by omega) (growslice_fits (by omega) (by rw [hz2]; omega))
        rw [hr2] at hr
        injection hr with hr _
        subst hr; exact .inr rfl
theorem wp_app {w : World} {o : Oper} {a : Act} {K : Act → World → Prop} {Q : Exit → Act → World → Prop} (s x : Operand)
    (ho : o.op = .call { callee := .builtin .append, args := #[s, x], argTypes := #[22, 22] }) (base : Nat) (hbase : base ≤ w.heap.size)
    (v : Value) (ms : List Int) (hs : a.eval s = v) (hown : OwnB w base v ms) (xv : Value) (ns : List Int) (hrow : Row .u8 w xv ns) (hx : a.eval x = xv) (h63 : ms.length + ns.length ≤ 10000000)
    (h : ∀ v' w', Appd w w' base v v' (ms ++ ns) → K (a.put o.dst v') w') : o.wp Tryz.prog a w K Q := by
  obtain ⟨v', w', hr, h2⟩ := run_append_keep base o.type v ms ns hown xv hrow h63 hbase
  unfold Oper.wp
  simp [execOp, ho, resolve, invoke, builtin, hs, hx, hr, Result.andThen]
  exact h v' w' h2
/-- Two slices do not lie in one block. -/
def Apart2 (v u : Value) : Prop := ∀ g, v.ownBlock = some g → u.ownBlock ≠ some g
theorem Appd.below {w w' : World} {base : Nat} {v v' : Value} {l ms : List Int} (h : Appd w w' base v v' l) (hown : OwnB w base v ms) (hb : base ≤ w.heap.size) : Below base w w' :=
  (Below.refl base w).grown h.grown hb fun _ e => own_above hown e
theorem Appd.size {w w' : World} {base : Nat} {v v' : Value} {l : List Int} (h : Appd w w' base v v' l) : w.heap.size ≤ w'.heap.size := h.grown.size
theorem Appd.apart {w w' : World} {base : Nat} {v v' u : Value} {l : List Int} (h : Appd w w' base v v' l) (ha : Apart2 v u) (hu : ∀ g, u.ownBlock = some g → g < w.heap.size) : Apart2 v' u := by
  intro g hg e
  rcases h.blk with hk | hk
  · exact ha g (hk ▸ hg) e
  · rw [hk] at hg
    injection hg with hg
    have := hu g e
    omega
/-- A row elsewhere is kept. -/
theorem Appd.row {w w' : World} {base : Nat} {v v' u : Value} {l ns : List Int} (h : Appd w w' base v v' l) (ha : Apart2 v u) (hr : Row .u8 w u ns) : Row .u8 w' u ns := by
  obtain ⟨a, cap, h1, h2, h3, h0, h4, h5⟩ := hr
  refine ⟨a, cap, h1, h2, h3, h0, h4, fun hne => ?_⟩
  obtain ⟨b, off, e, hlt, hc⟩ := h5 hne
  subst e
  have hk : w'.heap[b]? = w.heap[b]? := h.grown.block b hlt (fun e => ha b e.symm (by rw [h1]; rfl))
  exact ⟨b, off, rfl, Nat.lt_of_lt_of_le hlt h.grown.size, fun i hi => (World.cell?_of_block hk).trans (hc i hi)⟩
theorem Row.blk_lt {w : World} {v : Value} {l : List Int} (hr : Row .u8 w v l) (hne : l ≠ []) : ∀ g, v.ownBlock = some g → g < w.heap.size := by
  intro g hg
  obtain ⟨a, cap, rfl, _, _, _, _, h5⟩ := hr
  obtain ⟨b, off, rfl, hlt, _⟩ := h5 hne
  simp [Value.ownBlock] at hg; omega
theorem OwnB.blk {w : World} {base : Nat} {v : Value} {l : List Int} (h : OwnB w base v l) : ∀ g, v.ownBlock = some g → base ≤ g ∧ g < w.heap.size := fun g hg => World.ownsRow.lt h g hg

set_option maxHeartbeats 1000000 in
theorem Clone8_any (v : Value) (l : List Int) (w : World) (h : Row .u8 w v l) (hlen : l.length ≤ 10000000) :
    Calls Tryz.prog 38 #[v] w fun e w' => ∃ r, e = .returned r ∧ OwnB w' w.heap.size r l ∧ Below w.heap.size w w' := by
  have H := Lib.hid h
  have hq := Lib.run_eql_slice_nil (P := Tryz.prog) (t := 22) (e := 5)
  obtain ⟨a, cap, rfl, hl, hc, h0, -, hr⟩ := h
  cases a with
  | none =>
    obtain rfl : cap = 0 := h0 rfl
    obtain rfl : l = [] := List.length_eq_zero_iff.1 (by omega)
    clear h0 hr
    go_enter Tryz.func38, Tryz.ntmps38
    go_wp2
    go_ret
    exact ⟨_, rfl, World.ownsRow_nil _ _ _ _, Below.refl _ _⟩
  | some ad =>
    clear h0 hr
    have own0 : OwnB (w.alloc (.cells #[] 5)) w.heap.size (.slice (some ⟨w.heap.size, 0, none⟩) 0 0) [] := owns_empty w w.heap.size 5 (Nat.le_refl _)
    go_enter Tryz.func38, Tryz.ntmps38
    go_wp2_with (at_builtin; refine wpList_plain rfl fun Kx hKx => ?_; refine wp_app _ _ rfl w.heap.size (by simp) _ [] rfl own0 _ l (H.out.alloc _) rfl (by simp; omega) ?_; intro v4 w4 ap; refine hKx _ _ ?_)
    go_ret
    exact ⟨_, rfl, ap.own, ((Below.refl _ w).alloc (Nat.le_refl _) _).trans (ap.below own0 (by simp))⟩
end Go.Proofs.YtlaidjgdipacgaaGreatDoor
end

section
namespace Go.Proofs.YtlaidjgdipacgaaGreatDoor
open Go.RowKit

theorem cat_take {l : List Dm.It} {k : Nat} (hk : k < l.length) : Dm.cat (l.take (k + 1)) = Dm.cat (l.take k) ++ Dm.bytes (l[k]?.getD Dm.no) := by
  rw [List.take_add_one, List.getElem?_eq_getElem hk, Dm.cat_append]
  simp [Dm.cat]
theorem lens_append (l m : List Dm.It) : Dm.lens (l ++ m) = Dm.lens l + Dm.lens m := by
  rw [← Dm.cat_len, Dm.cat_append, List.length_append, Dm.cat_len, Dm.cat_len]
theorem lens_take {l : List Dm.It} {k : Nat} (hk : k < l.length) : Dm.lens (l.take k) + Dm.len (l[k]?.getD Dm.no) ≤ Dm.lens l := by
  have h : l = l.take (k + 1) ++ l.drop (k + 1) := (List.take_append_drop _ _).symm
  have h2 : Dm.lens (l.take (k + 1)) = Dm.lens (l.take k) + Dm.len (l[k]?.getD Dm.no) := by
    rw [← Dm.cat_len, cat_take hk, List.length_append, Dm.cat_len, Dm.bytes_len]
  have h3 := congrArg Dm.lens h
  rw [lens_append] at h3
  omega
/-- What is asked of a call of put on an item. -/
def PutOn (x : Dm.It) : Prop := (∀ z ∈ Dm.bytes x, byte z) → ∀ (w0 w : World) (vb vl bv : Value) (ms : List Int), Below w0.heap.size w0 w → ItP w0 vb vl x → OwnB w w0.heap.size bv ms → ms.length + Dm.len x ≤ 1000000 →
  Calls Tryz.prog 36 #[bv, .agg #[.int .i64 x.tag, vb, vl]] w fun e w' => (∃ v', e = .returned v' ∧ OwnB w' w0.heap.size v' (ms ++ Dm.bytes x)) ∧ Below w0.heap.size w w'

set_option maxRecDepth 100000 in
set_option maxHeartbeats 2000000 in
theorem content_any (x : Dm.It) (hP : ∀ y ∈ x.l, PutOn y) (hz : ∀ z ∈ x.b ++ Dm.cat x.l, byte z) (hlen : x.b.length + Dm.lens x.l ≤ 1000000) (hll : x.l.length ≤ 1000000) (vb vl : Value) (w : World) (hp : ItP w vb vl x) :
    Calls Tryz.prog 63 #[.agg #[.int .i64 x.tag, vb, vl]] w fun e w' => (∃ v', e = .returned v' ∧ OwnB w' w.heap.size v' (x.b ++ Dm.cat x.l)) ∧ Below w.heap.size w w' := by
  obtain ⟨ab, cb, rfl⟩ := hp.2.1.shape x.b.length rfl
  obtain ⟨al, cl, rfl⟩ := hp.2.2.shape
  obtain ⟨T, hT⟩ : ∃ T, x.tag = T := ⟨_, rfl⟩
  rw [hT]
  obtain ⟨G, hG⟩ : ∃ G, w.heap.size = G := ⟨_, rfl⟩
  have q0 := Trip.new w 47 (.int .i64 T) (.slice ab x.b.length cb) (.slice al x.l.length cl)
  have hb0 := (Below.refl w.heap.size w).alloc (Nat.le_refl _) (.cells #[.int .i64 T, .slice ab x.b.length cb, .slice al x.l.length cl] 47)
  obtain ⟨W, hW⟩ : ∃ W, w.alloc (.cells #[.int .i64 T, .slice ab x.b.length cb, .slice al x.l.length cl] 47) = W := ⟨_, rfl⟩
  rw [hW] at q0 hb0
  rw [hG] at q0
  have HP := Lib.hid hp; have HW := Lib.hid hW; have HG := Lib.hid hG; have HQ := Lib.hid hP; have HZ := Lib.hid hz
  have hC := Clone8_any _ x.b W (hp.below hb0).2.1 (by omega)
  have c1 := q0.cell1; have c2 := q0.cell2
  clear hp hW hG hT hP hz
  go_enter Tryz.func63, Tryz.ntmps63
  go_wp2_with fail
  rw [HW.out]
  (try rw [HG.out])
  (try go_wp2_with fail)
  refine hC.mono ?_; rintro e w1 ⟨r, rfl, own, hb⟩
  have own1 := owns_base own hb0.size
  have hB1 := hb0.trans (hb.mono hb0.size)
  have q1 := trip_stp q0 hb
  clear hC own hb hb0 q0 c1 c2
  have c1 := q1.cell1; have c2 := q1.cell2
  go_wp2_with fail
  go_loopw [3, 5, 12] (fun bv _ i wr => ∃ k : Nat, i = .int .i64 k ∧ k ≤ x.l.length ∧ OwnB wr w.heap.size bv (x.b ++ Dm.cat (x.l.take k)) ∧ Below w.heap.size w wr) (fun _ _ i _ => x.l.length - (intOf i).toNat)
  case atStart => exact ⟨0, rfl, Nat.zero_le _, by simpa [Dm.cat] using own1, hB1⟩
  case round =>
    obtain ⟨k, rfl, hk, own, hb⟩ := hrel
    have HO := Lib.hid own
    clear own own1 c1 c2 q1
    have k0 : (0 : Int) ≤ (k : Int) := by omega
    have e1 : IntKind.i64.wrap ((k : Int) + 1) = (k : Int) + 1 := IntWalk.i64_in _ (by omega)
    by_cases hlt : k < x.l.length
    · have k1 : (k : Int) < (x.l.length : Int) := by omega
      obtain ⟨b, off, ab2, cb2, al2, cl2, rfl, hbl, x0, x1, x2, hpy⟩ := HP.out.2.2.at_ k hlt
      have x0 := (hb.cell (p := ⟨b, _, none⟩) hbl).trans x0
      have x1 := (hb.cell (p := ⟨b, _, none⟩) hbl).trans x1
      have x2 := (hb.cell (p := ⟨b, _, none⟩) hbl).trans x2
      have htk := cat_take hlt
      have hln := lens_take hlt
      obtain ⟨y, hy⟩ : ∃ y, x.l[k]?.getD Dm.no = y := ⟨_, rfl⟩
      rw [hy] at x0 x1 x2 hpy htk hln
      have hmem : y ∈ x.l := by rw [← hy, List.getElem?_eq_getElem hlt]; exact List.getElem_mem hlt
      have hzy : ∀ z ∈ Dm.bytes y, byte z := fun z hz => HZ.out z (List.mem_append_right _ (by rw [← List.take_append_drop (k + 1) x.l, Dm.cat_append, htk]; exact List.mem_append_left _ (List.mem_append_right _ hz)))
      have HY := Lib.hid (HQ.out y hmem hzy); have HT := Lib.hid htk; have HPY := Lib.hid hpy
      have hcl : (x.b ++ Dm.cat (x.l.take k)).length + Dm.len y ≤ 1000000 := by rw [List.length_append, Dm.cat_len]; omega
      have HC := Lib.hid hcl
      have hbr := hb.size
      have own2 := HO.out.alloc (.cells #[.int .i64 y.tag, .slice ab2 y.b.length cb2, .slice al2 y.l.length cl2] 47)
      have hb2 := hb.alloc hb.size (.cells #[.int .i64 y.tag, .slice ab2 y.b.length cb2, .slice al2 y.l.length cl2] 47)
      have HO2 := Lib.hid own2
      have HB2 := Lib.hid hb2
      clear hy hmem hzy htk hpy hln hcl own2 hb2
      go_wp2_with fail
      refine (HY.out w _ _ _ _ _ HB2.out HPY.out HO2.out HC.out).mono ?_; rintro e w3 ⟨⟨v', rfl, own3⟩, hb3⟩
      have hB3 := HB2.out.trans hb3
      rw [List.append_assoc, ← HT.out] at own3
      have HO3 := Lib.hid own3
      clear own3 hb3 x0 x1 x2
      go_wp2_with fail
      go_roundw
      case rel => exact ⟨k + 1, by go_num, by omega, HO3.out, hB3⟩
      case measure => simp [intOf]; omega
    · obtain rfl : k = x.l.length := by omega
      go_wp2_with fail
      go_ret
      exact ⟨⟨_, rfl, by have := HO.out; rwa [List.take_length] at this⟩, hb⟩

theorem bytes_eq (x : Dm.It) : Dm.bytes x = [x.tag] ++ Dm.lenB (x.b ++ Dm.cat x.l).length ++ (x.b ++ Dm.cat x.l) := by
  cases x; rw [Dm.bytes, List.length_append, Dm.cat_len]; rfl
theorem len_eq (x : Dm.It) : Dm.len x = 1 + (Dm.lenB (x.b ++ Dm.cat x.l).length).length + (x.b ++ Dm.cat x.l).length := by
  rw [← Dm.bytes_len, bytes_eq]; simp; omega
theorem form_eq (x : Dm.It) : Dm.form x = ((decide (x.tag = 48) || x.l.isEmpty) && Dm.mayB x.tag x.b && Dm.forms x.l) := by cases x; rw [Dm.form]; rfl
theorem forms_mem {l : List Dm.It} {y : Dm.It} (h : Dm.forms l = true) (hy : y ∈ l) : Dm.form y = true := by
  induction l with
  | nil => simp at hy
  | cons x l ih =>
    unfold Dm.forms at h
    rw [Bool.and_eq_true] at h
    rcases List.mem_cons.1 hy with rfl | hy
    · exact h.1
    · exact ih h.2 hy
theorem known_byte {t : Int} (h : Dm.known t = true) : 0 ≤ t ∧ t < 256 := by
  obtain ⟨k, hk, rfl⟩ := (known_iff t).1 h
  match k, hk with
  | 0, _ => decide
  | 1, _ => decide
  | 2, _ => decide
  | 3, _ => decide
  | 4, _ => decide

theorem Row.lit8 (w : World) (l : List Int) (hl : l.length ≤ 1000) (hb : ∀ x ∈ l, byte x) (n : Nat) (hn : l.length = n) : Row .u8 (w.alloc (.cells (l.map (Value.int .u8)).toArray 5)) (.slice (some ⟨w.heap.size, 0, none⟩) n n) l := by
  subst hn
  exact Row.lit .u8 w 5 l (by unfold maxLen; omega) fun x hx => byte_wf_of (hb x hx)
/-- Bytes that are appended to, while others wait. -/
structure PutSt (w0 ws w : World) (v : Value) (ms : List Int) (u : Value) (inn : List Int) : Prop where
  own : OwnB w w0.heap.size v ms
  row : Row .u8 w u inn
  apart : Apart2 v u
  blk : ∀ g, u.ownBlock = some g → g < w.heap.size
  bel : Below w0.heap.size w0 w
  frm : Below w0.heap.size ws w
theorem PutSt.app {w0 ws w w' : World} {v v' u : Value} {ms inn l : List Int} (h : PutSt w0 ws w v ms u inn) (a : Appd w w' w0.heap.size v v' l) : PutSt w0 ws w' v' l u inn :=
  ⟨a.own, a.row h.apart h.row, a.apart h.apart h.blk, fun g hg => Nat.lt_of_lt_of_le (h.blk g hg) a.size, h.bel.trans (a.below h.own h.bel.size), h.frm.trans (a.below h.own h.bel.size)⟩
theorem PutSt.alloc {w0 ws w : World} {v u : Value} {ms inn : List Int} (h : PutSt w0 ws w v ms u inn) (o : Obj) : PutSt w0 ws (w.alloc o) v ms u inn :=
  ⟨h.own.alloc o, h.row.alloc o, h.apart, fun g hg => by have := h.blk g hg; rw [World.size_alloc]; omega, h.bel.alloc h.bel.size o, h.frm.alloc h.bel.size o⟩
theorem wp_put_lit {w0 ws w : World} {bv u : Value} {ms inn : List Int} (st : PutSt w0 ws w bv ms u inn) (l : List Int) (n : Nat) (hn : l.length = n) (hl : n ≤ 1000) (hb : ∀ x ∈ l, byte x) (h63 : ms.length ≤ 9000000)
    {o : Oper} {a : Act} {K : Act → World → Prop} {Q : Exit → Act → World → Prop} (s x : Operand)
    (ho : o.op = .call { callee := .builtin .append, args := #[s, x], argTypes := #[22, 22] })
    (hs : a.eval s = bv) (hx : a.eval x = .slice (some ⟨w.heap.size, 0, none⟩) n n)
    (h : ∀ v' w', PutSt w0 ws w' v' (ms ++ l) u inn → K (a.put o.dst v') w') : o.wp Tryz.prog a (w.alloc (.cells (l.map (Value.int .u8)).toArray 5)) K Q := by
  have st2 := st.alloc (.cells (l.map (Value.int .u8)).toArray 5)
  exact wp_app s x ho w0.heap.size st2.bel.size bv ms hs st2.own _ l (Row.lit8 w l (by omega) hb n hn) hx (by omega) fun v' w' a => h v' w' (st2.app a)
theorem wp_put_row {w0 ws w : World} {bv u : Value} {ms inn : List Int} (st : PutSt w0 ws w bv ms u inn) (h63 : ms.length + inn.length ≤ 10000000)
    {o : Oper} {a : Act} {K : Act → World → Prop} {Q : Exit → Act → World → Prop} (s x : Operand)
    (ho : o.op = .call { callee := .builtin .append, args := #[s, x], argTypes := #[22, 22] })
    (hs : a.eval s = bv) (hx : a.eval x = u)
    (h : ∀ v' w', PutSt w0 ws w' v' (ms ++ inn) u inn → K (a.put o.dst v') w') : o.wp Tryz.prog a w K Q :=
  wp_app s x ho w0.heap.size st.bel.size bv ms hs st.own _ inn st.row hx h63 fun v' w' a => h v' w' (st.app a)
set_option maxRecDepth 100000 in
set_option maxHeartbeats 4000000 in
theorem put_of (x : Dm.It) (hx : 0 ≤ x.tag ∧ x.tag < 256) (hP : ∀ y ∈ x.l, PutOn y) (hll : x.l.length ≤ 1000000) : PutOn x := by
  intro hz w0 w vb vl bv ms hb0 hp hown hlen
  have hp1 := hp.below hb0
  obtain ⟨ab, cb, rfl⟩ := hp.2.1.shape x.b.length rfl
  obtain ⟨al, cl, rfl⟩ := hp.2.2.shape
  have hle := len_eq x
  have hbe := bytes_eq x
  have hz2 : ∀ z ∈ x.b ++ Dm.cat x.l, byte z := fun z h => hz z (by rw [hbe]; exact List.mem_append_right _ h)
  have hC := fun W (h : ItP W (.slice ab x.b.length cb) (.slice al x.l.length cl) x) => content_any x hP hz2 (by rw [len_eq, List.length_append, Dm.cat_len] at hlen; omega) hll _ _ W h
  obtain ⟨inn, hinn⟩ : ∃ inn, x.b ++ Dm.cat x.l = inn := ⟨_, rfl⟩
  obtain ⟨n, hn⟩ : ∃ n, inn.length = n := ⟨_, rfl⟩
  rw [hinn, hn] at hle hbe
  rw [hinn] at hC hz2
  obtain ⟨T, hT⟩ : ∃ T, x.tag = T := ⟨_, rfl⟩
  rw [hT] at hC hx hbe ⊢
  have ew : IntKind.u8.wrap T = T := by rw [IntKind.wrap_u8]; omega
  have hTb : byte T := ⟨hx.1, by omega⟩
  have hll3 := Dm.lenB_length n
  have hlen2 : ms.length + 1 + 3 + n ≤ 1000003 := by rw [hle] at hlen; omega
  have q0 := Trip.new w 47 (.int .i64 T) (.slice ab x.b.length cb) (.slice al x.l.length cl)
  have hb1 := (Below.refl w.heap.size w).alloc (Nat.le_refl _) (.cells #[.int .i64 T, .slice ab x.b.length cb, .slice al x.l.length cl] 47)
  obtain ⟨W, hW⟩ : ∃ W, w.alloc (.cells #[.int .i64 T, .slice ab x.b.length cb, .slice al x.l.length cl] 47) = W := ⟨_, rfl⟩
  have hsz : w.heap.size < W.heap.size := by rw [← hW]; simp
  rw [hW] at q0 hb1
  have c0 := q0.cell0; have c1 := q0.cell1; have c2 := q0.cell2
  have hC2 := hC _ (hp1.below hb1)
  have HE := Lib.hid hbe; have HO := Lib.hid hown; have HW := Lib.hid hW; have HZ := Lib.hid hz2; have HN := Lib.hid hn; have HTb := Lib.hid hTb; have HSz := Lib.hid hsz; have HLL := Lib.hid hll3
  clear hC hbe hle hp hp1 hinn hT hown hW hz hz2 hTb hsz hll3 hP hlen hn
  obtain ⟨G, hG⟩ : ∃ G, w.heap.size = G := ⟨_, rfl⟩
  have HG := Lib.hid hG
  rw [hG] at q0
  clear hG c0 c1 c2
  have c0 := q0.cell0; have c1 := q0.cell1; have c2 := q0.cell2
  go_enter Tryz.func36, Tryz.ntmps36
  go_wp2_with fail
  rw [HW.out]
  (try rw [HG.out])
  (try go_wp2_with fail)
  refine hC2.mono ?_; rintro e w1 ⟨⟨v', rfl, own1⟩, hbc⟩
  have rin := Row.of_bytes own1 HZ.out
  have blk1 := OwnB.blk own1
  have blk0 := OwnB.blk HO.out
  have ap0 : Apart2 bv v' := fun g h1 h2 => by have := (blk0 g h1).2; have := (blk1 g h2).1; have := HSz.out; omega
  obtain ⟨av, cv, rfl⟩ := rin.shape n HN.out
  have q1 := trip_stp q0 hbc
  have hbA : Below w0.heap.size w0 w1 := hb0.trans ((hb1.trans (hbc.mono hb1.size)).mono hb0.size)
  have ownb : OwnB w1 w0.heap.size bv ms := owns_below (owns_below HO.out hb1) hbc
  have hbB : Below w0.heap.size w w1 := (hb1.trans (hbc.mono hb1.size)).mono hb0.size
  have st0 : PutSt w0 w w1 bv ms (.slice av n cv) inn := ⟨ownb, rin, ap0, fun g h => (blk1 g h).2, hbA, hbB⟩
  have ST := Lib.hid st0
  clear c0 c1 c2 q0 own1 rin ap0 ownb blk1 blk0 hbc hb1 hC2 hbA st0 hbB
  have d0 := q1.cell0
  clear q1
  by_cases h1 : n < 128
  · have h1' : (n : Int) < 128 := by omega
    have en : IntKind.u8.wrap (n : Int) = (n : Int) := by rw [IntKind.wrap_u8]; omega
    have HLB : Hid (∀ z ∈ ([(n : Int)] : List Int), byte z) := Lib.hid (by intro z hz; simp at hz; unfold byte; omega)
    go_wp2_with (first
      | (at_builtin; refine wpList_plain rfl fun Kx hKx => ?_; refine wp_put_lit ST.out [T] 1 rfl (by decide) (fun z hz => by rw [List.mem_singleton.1 hz]; exact HTb.out) (by omega) (.tmp 9) (.tmp 13) rfl rfl rfl ?_; intro v1 w2 s1; refine hKx _ _ ?_)
      | (at_builtin; refine wpList_plain rfl fun Kx hKx => ?_; refine wp_put_lit s1 [(n : Int)] 1 rfl (by decide) HLB.out (by simp; omega) (.tmp 28) (.tmp 31) rfl rfl rfl ?_; intro v2 w3 s2; refine hKx _ _ ?_)
      | (at_builtin; refine wpList_plain rfl fun Kx hKx => ?_; refine wp_put_row s2 (by have := HN.out; simp; omega) (.tmp 41) (.tmp 42) rfl rfl rfl ?_; intro v3 w4 s3; refine hKx _ _ ?_)
      | fail)
    go_ret
    have hlb : Dm.lenB n = [(n : Int)] := by unfold Dm.lenB; rw [if_pos h1]
    exact ⟨⟨_, rfl, by have := s3.own; rw [HE.out, hlb, ← List.append_assoc, ← List.append_assoc]; exact this⟩, s3.frm⟩
  have h1' : ¬ (n : Int) < 128 := by omega
  by_cases h2 : n < 256
  · have h2' : (n : Int) < 256 := by omega
    have en : IntKind.u8.wrap (n : Int) = (n : Int) := by rw [IntKind.wrap_u8]; omega
    have HLB : Hid (∀ z ∈ ([129, (n : Int)] : List Int), byte z) := Lib.hid (by intro z hz; simp at hz; unfold byte; omega)
    go_wp2_with (first
      | (at_builtin; refine wpList_plain rfl fun Kx hKx => ?_; refine wp_put_lit ST.out [T] 1 rfl (by decide) (fun z hz => by rw [List.mem_singleton.1 hz]; exact HTb.out) (by omega) (.tmp 9) (.tmp 13) rfl rfl rfl ?_; intro v1 w2 s1; refine hKx _ _ ?_)
      | (at_builtin; refine wpList_plain rfl fun Kx hKx => ?_; refine wp_put_lit s1 [129, (n : Int)] 2 rfl (by decide) HLB.out (by simp; omega) (.tmp 36) (.tmp 39) rfl rfl rfl ?_; intro v2 w3 s2; refine hKx _ _ ?_)
      | (at_builtin; refine wpList_plain rfl fun Kx hKx => ?_; refine wp_put_row s2 (by have := HN.out; simp; omega) (.tmp 41) (.tmp 42) rfl rfl rfl ?_; intro v3 w4 s3; refine hKx _ _ ?_)
      | fail)
    go_ret
    have hlb : Dm.lenB n = [129, (n : Int)] := by unfold Dm.lenB; rw [if_neg h1, if_pos h2]
    exact ⟨⟨_, rfl, by have := s3.own; rw [HE.out, hlb, ← List.append_assoc, ← List.append_assoc]; exact this⟩, s3.frm⟩
  · have h2' : ¬ (n : Int) < 256 := by omega
    have HLB : Hid (∀ z ∈ ([130, ((n / 256 % 256 : Nat) : Int), ((n % 256 : Nat) : Int)] : List Int), byte z) := Lib.hid (by intro z hz; simp at hz; unfold byte; omega)
    go_wp2_with (first
      | (at_builtin; refine wpList_plain rfl fun Kx hKx => ?_; refine wp_put_lit ST.out [T] 1 rfl (by decide) (fun z hz => by rw [List.mem_singleton.1 hz]; exact HTb.out) (by omega) (.tmp 9) (.tmp 13) rfl rfl rfl ?_; intro v1 w2 s1; refine hKx _ _ ?_)
      | (at_builtin; refine wpList_plain rfl fun Kx hKx => ?_; refine wp_put_lit s1 [130, ((n / 256 % 256 : Nat) : Int), ((n % 256 : Nat) : Int)] 3 rfl (by decide) HLB.out (by simp; omega) (.tmp 17) (.tmp 23) rfl rfl rfl ?_; intro v2 w3 s2; refine hKx _ _ ?_)
      | (at_builtin; refine wpList_plain rfl fun Kx hKx => ?_; refine wp_put_row s2 (by have := HN.out; simp; omega) (.tmp 41) (.tmp 42) rfl rfl rfl ?_; intro v3 w4 s3; refine hKx _ _ ?_)
      | fail)
    go_ret
    have hlb : Dm.lenB n = [130, ((n / 256 % 256 : Nat) : Int), ((n % 256 : Nat) : Int)] := by unfold Dm.lenB; rw [if_neg h1, if_neg h2]
    exact ⟨⟨_, rfl, by have := s3.own; rw [HE.out, hlb, ← List.append_assoc, ← List.append_assoc]; exact this⟩, s3.frm⟩

theorem put_any (n : Nat) : ∀ (x : Dm.It), Dm.wt x ≤ n → n ≤ 1000000 → Dm.form x = true → PutOn x := by
  induction n using Nat.strongRecOn with
  | _ n ih =>
    intro x hw hn hf
    have hwt := Dm.wt_eq x
    have hll := Dm.wts_len x.l
    rw [form_eq, Bool.and_eq_true, Bool.and_eq_true] at hf
    refine put_of x (known_byte (Dm.mayB_known hf.1.2)) (fun y hy => ?_) (by omega)
    have := Dm.wts_mem hy
    exact ih (Dm.wt y) (by omega) y (Nat.le_refl _) (by omega) (forms_mem hf.2 hy)
theorem lenB_bytes (n : Nat) : ∀ z ∈ Dm.lenB n, byte z := by
  intro z hz
  unfold Dm.lenB at hz
  unfold byte
  by_cases h1 : n < 128
  · rw [if_pos h1] at hz; simp at hz; omega
  · rw [if_neg h1] at hz
    by_cases h2 : n < 256
    · rw [if_pos h2] at hz; simp at hz; omega
    · rw [if_neg h2] at hz; simp at hz; omega
theorem bytes_of_parts {x : Dm.It} (hf : Dm.form x = true) (hb : ∀ z ∈ x.b, byte z) (hl : ∀ z ∈ Dm.cat x.l, byte z) : ∀ z ∈ Dm.bytes x, byte z := by
  intro z hz
  rw [form_eq, Bool.and_eq_true, Bool.and_eq_true] at hf
  have hk := known_byte (Dm.mayB_known hf.1.2)
  rw [bytes_eq] at hz
  rcases List.mem_append.1 hz with hz | hz
  · rcases List.mem_append.1 hz with hz | hz
    · rw [List.mem_singleton.1 hz]; unfold byte; omega
    · exact lenB_bytes _ z hz
  · rcases List.mem_append.1 hz with hz | hz
    · exact hb z hz
    · exact hl z hz
mutual
theorem len_le' : ∀ x : Dm.It, Dm.len x ≤ 2 * Dm.wt x
  | .mk t b l => by
    have h := lens_le l
    unfold Dm.len Dm.wt
    rw [Dm.lenB_length]
    split
    · omega
    · split <;> omega
theorem lens_le : ∀ l : List Dm.It, Dm.lens l ≤ 2 * Dm.wts l
  | [] => by simp [Dm.lens, Dm.wts]
  | x :: l => by
    have h1 := len_le' x
    have h2 := lens_le l
    unfold Dm.lens Dm.wts; omega
end
mutual
/-- An item's bytes are bytes. -/
theorem ItemAt.bytes {W : World} : ∀ (x : Dm.It) (b o : Nat), ItemAt W b o x → Dm.form x = true → ∀ z ∈ Dm.bytes x, byte z
  | .mk t bs l, b, o, h, hf => by
    unfold ItemAt at h
    obtain ⟨vb, a, c, -, -, -, -, hr, -, -, -, k4⟩ := h
    have hl : ∀ z ∈ Dm.cat l, byte z := by
      by_cases hne : l = []
      · subst hne; simp [Dm.cat]
      · obtain ⟨b', o', -, -, hi⟩ := k4 hne
        rw [form_eq, Bool.and_eq_true] at hf
        exact ItemsAt.bytes l b' o' hi hf.2
    exact bytes_of_parts hf hr.all_byte hl
theorem ItemsAt.bytes {W : World} : ∀ (l : List Dm.It) (b o : Nat), ItemsAt W b o l → Dm.forms l = true → ∀ z ∈ Dm.cat l, byte z
  | [], _, _, _, _ => by simp [Dm.cat]
  | x :: l, b, o, h, hf => by
    unfold ItemsAt at h
    unfold Dm.forms at hf
    rw [Bool.and_eq_true] at hf
    intro z hz
    unfold Dm.cat at hz
    rcases List.mem_append.1 hz with hz | hz
    · exact ItemAt.bytes x b o h.1 hf.1 z hz
    · exact ItemsAt.bytes l b (o + 3) h.2 hf.2 z hz
end
theorem ItP.bytes {W : World} {vb vl : Value} {x : Dm.It} (h : ItP W vb vl x) (hf : Dm.form x = true) : ∀ z ∈ Dm.bytes x, byte z := by
  have hl : ∀ z ∈ Dm.cat x.l, byte z := by
    obtain ⟨a, c, -, -, -, -, h4⟩ := h.2.2
    by_cases hne : x.l = []
    · rw [hne]; simp [Dm.cat]
    · obtain ⟨b', o', -, -, hi⟩ := h4 hne
      rw [form_eq, Bool.and_eq_true] at hf
      exact ItemsAt.bytes x.l b' o' hi hf.2
  exact bytes_of_parts hf h.2.1.all_byte hl
end Go.Proofs.YtlaidjgdipacgaaGreatDoor
end

section
namespace Go.Proofs.YtlaidjgdipacgaaGreatDoor
open Go.RowKit

theorem may_is {x : Dm.It} (h : Dm.may 8 x = true) : Dm.form x = true := by
  rw [Dm.may_form, Bool.and_eq_true] at h; exact h.1
/-- What Put hands back. -/
def Putted (w w' : World) (x : Dm.It) (e : Ending) : Prop :=
  if Dm.may 8 x = true then
    (if Dm.len x ≤ 8192 then ∃ a c, e = .returned (.tuple #[.slice a (Dm.len x) c, .int .i64 0]) ∧ OwnB w' w.heap.size (.slice a (Dm.len x) c) (Dm.bytes x) else e = .returned (.tuple #[.slice none 0 0, .int .i64 2]))
  else e = .returned (.tuple #[.slice none 0 0, .int .i64 1])
set_option maxRecDepth 100000 in
set_option maxHeartbeats 2000000 in
theorem Put_any (x : Dm.It) (hw : Dm.wt x ≤ 400000) (vb vl : Value) (w : World) (hk : KindsAt w) (hp : ItP w vb vl x) :
    Calls Tryz.prog 12 #[.agg #[.int .i64 x.tag, vb, vl]] w fun e w' => Putted w w' x e ∧ Below w.heap.size w w' := by
  have hll := len_le' x
  obtain ⟨ab, cb, rfl⟩ := hp.2.1.shape x.b.length rfl
  obtain ⟨al, cl, rfl⟩ := hp.2.2.shape
  have q0 := Trip.new w 47 (.int .i64 x.tag) (.slice ab x.b.length cb) (.slice al x.l.length cl)
  have hb0 := (Below.refl w.heap.size w).alloc (Nat.le_refl _) (.cells #[.int .i64 x.tag, .slice ab x.b.length cb, .slice al x.l.length cl] 47)
  obtain ⟨G, hG⟩ : ∃ G, w.heap.size = G := ⟨_, rfl⟩
  obtain ⟨W, hW⟩ : ∃ W, w.alloc (.cells #[.int .i64 x.tag, .slice ab x.b.length cb, .slice al x.l.length cl] 47) = W := ⟨_, rfl⟩
  rw [hW] at q0 hb0
  rw [hG] at q0
  have k0 := hk.below hb0; have p0 := hp.below hb0
  have hM := may_any 400000 x _ _ 8 W hw (by omega) (by omega) k0 p0
  have HP := Lib.hid hp; have HW := Lib.hid hW; have HG := Lib.hid hG
  have c0 := q0.cell0; have c1 := q0.cell1; have c2 := q0.cell2
  obtain ⟨m, hm⟩ : ∃ m, Dm.may 8 x = m := ⟨_, rfl⟩
  rw [hm] at hM
  clear hk hp hW hG k0 p0
  cases m with
  | false =>
    have HM := Lib.hid hm
    clear hm
    go_enter Tryz.func12, Tryz.ntmps12
    go_wp2_with fail
    rw [HW.out]
    (try rw [HG.out])
    (try go_wp2_with fail)
    refine hM.mono ?_; rintro e w1 ⟨rfl, hb⟩
    have hB := hb0.trans (hb.mono hb0.size)
    clear hM hb c0 c1 c2
    go_wp2_with fail
    go_ret2
    exact ⟨by unfold Putted; rw [HM.out]; rfl, hB⟩
  | true =>
    have hP := put_any 400000 x hw (by omega) (may_is hm) (HP.out.bytes (may_is hm))
    have HM := Lib.hid hm; have HPP := Lib.hid hP
    have own0 : ∀ V, OwnB V w.heap.size (.slice none 0 0) [] := fun V => World.ownsRow_nil _ _ _ _
    have HO := Lib.hid own0
    have HZ := Lib.hid (HP.out.bytes (may_is hm))
    clear hm hP own0
    go_enter Tryz.func12, Tryz.ntmps12
    go_wp2_with fail
    rw [HW.out]
    (try rw [HG.out])
    (try go_wp2_with fail)
    refine hM.mono ?_; rintro e w1 ⟨rfl, hb⟩
    have hB := hb0.trans (hb.mono hb0.size)
    have q1 := trip_stp q0 hb
    clear hM hb c0 c1 c2 q0
    have c0 := q1.cell0; have c1 := q1.cell1; have c2 := q1.cell2
    go_wp2_with fail
    refine (HPP.out w w1 _ _ _ [] hB HP.out (HO.out w1) (by simp; omega)).mono ?_; rintro e w2 ⟨⟨v', rfl, own⟩, hb⟩
    have hB2 := hB.trans hb
    rw [List.nil_append] at own
    obtain ⟨a, c, rfl⟩ := (Row.of_bytes own HZ.out).shape (Dm.len x) (Dm.bytes_len x)
    have OW := Lib.hid own
    clear own hb c0 c1 c2 q1
    by_cases h8 : Dm.len x ≤ 8192
    · have h8' : ¬ (8192 : Int) < (Dm.len x : Int) := by omega
      go_wp2_with fail
      go_ret2
      exact ⟨by unfold Putted; rw [if_pos HM.out, if_pos h8]; exact ⟨a, c, rfl, OW.out⟩, hB2⟩
    · have h8' : (8192 : Int) < (Dm.len x : Int) := by omega
      go_wp2_with fail
      go_ret2
      exact ⟨by unfold Putted; rw [if_pos HM.out, if_neg h8]; rfl, hB2⟩
end Go.Proofs.YtlaidjgdipacgaaGreatDoor
end

section
namespace Go.Proofs.YtlaidjgdipacgaaGreatDoor
open Go.RowKit

theorem results_cell1 {P : Program} {fn : Func} {p : Tmp} {ty : TypeId} (h : fn.results = #[.cell p ty]) (tmps : Array Value) (w : World) (g : Nat) (t' : TypeId) (cs : Array Value) (fr : Nat × Nat) (d : TypeDesc)
    (hp : tmps.getD p undef = .pointer (some ⟨g, 0, none⟩)) (hg : w.heap[g]? = some (.cells cs t' fr))
    (hu : P.underlying ty = some d) (hd : (match d with | .struct _ | .array _ _ => true | _ => false) = true) (hi : (P.info? ty).map (·.size) = some cs.size) :
    (results fn tmps).run P w = .ok (.agg cs) w := by
  have hp' : tmps[p]?.getD undef = .pointer (some ⟨g, 0, none⟩) := by simpa using hp
  simp [results, h, hp', asAddr, run_loadVar_row w g t' ty cs fr d hg hu hd hi]
theorem item_ret1 {tmps : Array Value} {W : World} {g : Nat} {fn : Func} {p : Tmp} (hr : fn.results = #[.cell p 47]) (hp : tmps.getD p undef = .pointer (some ⟨g, 0, none⟩)) {x y z : Value} (hd : Trip W g 47 x y z) :
    (results fn tmps).run Tryz.prog W = .ok (.agg #[x, y, z]) W :=
  results_cell1 hr _ _ g _ _ _ _ hp hd Tryz.underlying47 rfl (by kernel_rfl)
theorem cells_set {W : World} {B : Nat} {cs : Array Value} {t : TypeId} (h : W.heap[B]? = some (.cells cs t (0, 0))) (i : Nat) (v : Value) : (W.setCell ⟨B, i, none⟩ v).heap[B]? = some (.cells (cs.setIfInBounds i v) t (0, 0)) := by
  obtain ⟨hlt, hk⟩ := Array.getElem?_eq_some_iff.1 h
  show (W.heap.modify B _)[B]? = _
  rw [Array.getElem?_eq_getElem (by rw [Array.size_modify]; exact hlt), Array.getElem_modify_self, hk]
  rfl

theorem trip3 {W : World} {B : Nat} {t : TypeId} {x y z : Value} (h : Trip W B t x y z) (a b c : Value) : Trip (((W.setCell ⟨B, 0, none⟩ a).setCell ⟨B, 1, none⟩ b).setCell ⟨B, 2, none⟩ c) B t a b c := ((h.set0 a).set1 b).set2 c
theorem bel3' {n : Nat} {w W : World} (h : Below n w W) {B : Nat} (hB : n ≤ B) (a b c : Value) : Below n w (((W.setCell ⟨B, 0, none⟩ a).setCell ⟨B, 1, none⟩ b).setCell ⟨B, 2, none⟩ c) := ((h.setCell hB a).setCell hB b).setCell hB c
theorem Row.off_trip {W : World} {R : Nat} {t : TypeId} {n : Int} {a1 a2 : Option Addr} {n1 n2 c1 c2 : Nat} {v : Value} {l : List Int} (h : Row .u8 W v l) (hd : Trip W R t (.int .i64 n) (.slice a1 n1 c1) (.slice a2 n2 c2)) : Off R v := fun b o m c e hn he => by
  obtain ⟨a, cap, e2, _, _, _, _, hc⟩ := h
  rw [e] at e2
  cases e2
  obtain ⟨b2, o2, e3, _, hcell⟩ := hc (by rintro rfl; simp at hn)
  cases e3
  subst he
  have h0 := hcell 0 (by omega)
  simp only [World.cell?, show W.heap[b]? = _ from hd, Nat.add_zero] at h0
  match o, h0 with
  | 0, h0 => simp at h0
  | 1, h0 => simp at h0
  | 2, h0 => simp at h0
  | k + 3, h0 => simp at h0
theorem Row.aside3 {k : IntKind} {W : World} {v : Value} {l : List Int} (h : Row k W v l) {B : Nat} (hp : Off B v) (a b c : Value) : Row k (((W.setCell ⟨B, 0, none⟩ a).setCell ⟨B, 1, none⟩ b).setCell ⟨B, 2, none⟩ c) v l :=
  ((h.aside (p := ⟨B, 0, none⟩) hp a).aside (p := ⟨B, 1, none⟩) hp b).aside (p := ⟨B, 2, none⟩) hp c
/-- The eight bytes of a number. -/
def be8 (n : Int) : List Int := (List.range 8).map fun i => n / 2 ^ (56 - 8 * i) % 256
/-- As few as hold it. -/
def trimI : List Int → List Int
  | x :: y :: r => if Dm.least (x :: y :: r) then x :: y :: r else trimI (y :: r)
  | l => l
def intB (n : Int) : List Int := trimI (be8 n)
theorem trimI_stop {l : List Int} (h : l.length ≤ 1 ∨ Dm.least l = true) : trimI l = l := by
  match l, h with
  | [], _ => rfl
  | [_], _ => rfl
  | x :: y :: r, h =>
    rcases h with h | h
    · simp at h
    · rw [trimI, if_pos h]
theorem trimI_step {l : List Int} (h : 1 < l.length) (hl : Dm.least l = false) : trimI l = trimI (l.drop 1) := by
  match l, h with
  | x :: y :: r, h => rw [trimI, hl]; rfl
/-- The array under way. -/
def Eight (W : World) (C : Nat) (n : Int) (k : Nat) : Prop := ∃ cs t, W.heap[C]? = some (.cells cs t (0, 0)) ∧ cs.size = 8 ∧ ∀ j, j < 8 → cs[j]? = some (.int .u8 (if j < k then (be8 n)[j]?.getD 0 else 0))
theorem Eight.free {W : World} {C : Nat} {n : Int} {k : Nat} (h : Eight W C n k) (j : Nat) : W.frozen? ⟨C, j, none⟩ = false := by
  obtain ⟨cs, t, h, -⟩ := h; simp [World.frozen?, h]
theorem Eight.cell {W : World} {C : Nat} {n : Int} {k : Nat} (h : Eight W C n k) (j : Nat) (hj : j < 8) : W.cell? ⟨C, j, none⟩ = some (.int .u8 (if j < k then (be8 n)[j]?.getD 0 else 0)) := by
  obtain ⟨cs, t, h, _, h2⟩ := h
  have := h2 j hj
  simp only [World.cell?, h]; simpa using this
theorem Eight.lt {W : World} {C : Nat} {n : Int} {k : Nat} (h : Eight W C n k) : C < W.heap.size := by obtain ⟨cs, t, h, -⟩ := h; exact (Array.getElem?_eq_some_iff.1 h).1
theorem be8_at (n : Int) (k : Nat) (hk : k < 8) : (be8 n)[k]?.getD 0 = n / 2 ^ (56 - 8 * k) % 256 := by
  unfold be8; simp [hk]
theorem Eight.set {W : World} {C : Nat} {n : Int} {k : Nat} (h : Eight W C n k) (hk : k < 8) : Eight (W.setCell ⟨C, k, none⟩ (.int .u8 (n / 2 ^ (56 - 8 * k) % 256))) C n (k + 1) := by
  obtain ⟨cs, t, h, h1, h2⟩ := h
  refine ⟨_, t, cells_set h k _, by simp [h1], fun j hj => ?_⟩
  by_cases e : j = k
  · subst e
    rw [Array.getElem?_setIfInBounds_self_of_lt (by omega), if_pos (by omega), be8_at n j hk]
  · rw [Array.getElem?_setIfInBounds_ne (fun x => e x.symm), h2 j hj]
    by_cases g : j < k
    · rw [if_pos g, if_pos (by omega)]
    · rw [if_neg g, if_neg (by omega)]
theorem Eight.row {W : World} {C : Nat} {n : Int} (h : Eight W C n 8) : Row .u8 W (.slice (some ⟨C, 0, none⟩) 8 8) (be8 n) := by
  have hl : (be8 n).length = 8 := rfl
  refine ⟨_, _, rfl, by rw [hl]; exact Nat.le_refl _, by unfold maxLen; omega, (fun e => by cases e), fun x hx => byte_wf_of ?_, fun _ => ⟨C, 0, rfl, h.lt, fun i hi => ?_⟩⟩
  · simp only [be8, List.mem_map] at hx
    obtain ⟨i, _, rfl⟩ := hx
    unfold byte; omega
  · have := h.cell i (by omega)
    rw [if_pos (by omega)] at this
    simpa using this

set_option maxRecDepth 100000 in
set_option maxHeartbeats 2000000 in
theorem Int_any (n : Int) (w : World) :
    Calls Tryz.prog 13 #[.int .i64 n] w fun e w' => (∃ a c, e = .returned (.agg #[.int .i64 2, .slice a (intB n).length c, .slice none 0 0]) ∧
      Row .u8 w' (.slice a (intB n).length c) (intB n)) ∧ Below w.heap.size w w' := by
  obtain ⟨B, hB⟩ : ∃ B, w.heap.size = B := ⟨_, rfl⟩
  rw [hB]
  go_enter Tryz.func13, Tryz.ntmps13
  go_wp2_with fail
  go_loopw [4, 6] (fun _ i wr => ∃ k : Nat, i = .int .i64 k ∧ k ≤ 8 ∧ Trip wr B 47 (.int .i64 0) (.slice none 0 0) (.slice none 0 0) ∧ Eight wr (B + 1) n k ∧ Below B w wr) (fun _ i _ => 8 - (intOf i).toNat)
  case atStart =>
    refine ⟨0, rfl, Nat.zero_le _, ?_, ⟨#[.int .u8 0, .int .u8 0, .int .u8 0, .int .u8 0, .int .u8 0, .int .u8 0, .int .u8 0, .int .u8 0], 80, ?_, rfl, fun j hj => ?_⟩, ?_⟩
    · rw [← hB]; exact (Trip.new w _ _ _ _).alloc _
    · rw [← hB]
      have := World.alloc_heap_new (w.alloc (.cells #[.int .i64 0, .slice none 0 0, .slice none 0 0] 47)) (.cells #[.int .u8 0, .int .u8 0, .int .u8 0, .int .u8 0, .int .u8 0, .int .u8 0, .int .u8 0, .int .u8 0] 80)
      rw [World.size_alloc] at this
      exact this
    · rw [if_neg (Nat.not_lt_zero j)]
      match j, hj with
      | 0, _ => rfl
      | 1, _ => rfl
      | 2, _ => rfl
      | 3, _ => rfl
      | 4, _ => rfl
      | 5, _ => rfl
      | 6, _ => rfl
      | 7, _ => rfl
    · rw [← hB]; exact ((Below.refl _ w).alloc (Nat.le_refl _) _).alloc (by simp) _
  case round =>
    obtain ⟨k, rfl, hk, hd, h8, hb⟩ := hrel
    by_cases hk8 : k < 8
    · have k0 : (0 : Int) ≤ (k : Int) := by omega
      have k1 : (k : Int) < 8 := by omega
      have k2 : (k : Int).toNat = k := by omega
      have c0 := h8.cell k hk8; have f0 := h8.free k
      have e1 : IntKind.i64.wrap (8 * (k : Int)) = 8 * (k : Int) := IntWalk.i64_in _ (by omega)
      have e2 : IntKind.i64.wrap (56 - 8 * (k : Int)) = 56 - 8 * (k : Int) := IntWalk.i64_in _ (by omega)
      have e3 : IntKind.i64.wrap ((k : Int) + 1) = (k : Int) + 1 := IntWalk.i64_in _ (by omega)
      have hd2 := hd.other (p := ⟨B + 1, k, none⟩) (by simp) (.int .u8 (n / 2 ^ (56 - 8 * k) % 256))
      have h82 := h8.set hk8
      have hb2 := hb.setCell (p := ⟨B + 1, k, none⟩) (show B ≤ B + 1 by omega) (.int .u8 (n / 2 ^ (56 - 8 * k) % 256))
      have HD2 := Lib.hid hd2; have H82 := Lib.hid h82; have HB2 := Lib.hid hb2
      clear hd2 h82 hb2 hd h8 hb
      go_wp2_with fail
      go_roundw
      case rel => exact ⟨k + 1, by go_num, by omega, HD2.out, H82.out, HB2.out⟩
      case measure => simp [intOf]; omega
    · have hk9 : k = 8 := by omega
      have hk1 : ¬ (k : Int) < 8 := by omega
      have hrow := (show Eight wr (B + 1) n 8 from hk9 ▸ h8).row
      have HR := Lib.hid hrow; have HD := Lib.hid hd; have HBe := Lib.hid hb
      clear hd h8 hb hrow hk9
      go_wp2_with fail
      go_loopw [5] (fun s wr => ∃ (l : List Int) (a : Option Addr) (c : Nat), s = .slice a l.length c ∧ Row .u8 wr (.slice a l.length c) l ∧ trimI l = intB n ∧ 1 ≤ l.length ∧ l.length ≤ 8 ∧ Trip wr B 47 (.int .i64 0) (.slice none 0 0) (.slice none 0 0) ∧ Below B w wr) (fun s _ => lenOf s)
      case atStart => exact ⟨be8 n, _, _, rfl, HR.out, rfl, show 1 ≤ 8 by decide, Nat.le_refl 8, HD.out, HBe.out⟩
      case round =>
        obtain ⟨l, a, c, rfl, hr, ht, hl1, hl8, hd, hb⟩ := hrel
        obtain ⟨b, off, rfl, hbl, -⟩ := hr.cellAt 0 (by omega)
        obtain ⟨L, hL⟩ : ∃ L, l.length = L := ⟨_, rfl⟩
        rw [hL] at hr hl1 hl8 ⊢
        have hLc : L ≤ c := by obtain ⟨_, _, e', hc, _⟩ := hr; cases e'; omega
        have HR2 := Lib.hid hr; have HT := Lib.hid ht; have HD2 := Lib.hid hd; have HB2 := Lib.hid hb; have HL := Lib.hid hL
        clear hr ht hd hb hL hbl
        have hCl := Clone8_any _ l _ HR2.out (by rw [HL.out]; omega)
        by_cases h1 : 1 < L
        · have h1' : (1 : Int) < (L : Int) := by omega
          have hC := least_any _ l _ HR2.out (by rw [HL.out]; omega)
          obtain ⟨M, hM⟩ : ∃ M, Dm.least l = M := ⟨_, rfl⟩
          rw [hM] at hC
          have HM := Lib.hid hM
          clear hM
          cases M with
          | false =>
            clear hCl
            have h1c : 1 < c := by omega
            have rc := Row.cut HR2.out 1 (by rw [HL.out]; omega) h1c
            rw [Option.map_some, addr_add] at rc
            have ht2 : trimI (l.drop 1) = intB n := by rw [← trimI_step (by rw [HL.out]; exact h1) HM.out]; exact HT.out
            have hl2 : (l.drop 1).length = L - 1 := by rw [List.length_drop, HL.out]
            have RC := Lib.hid rc; have HT2 := Lib.hid ht2; have HL2 := Lib.hid hl2
            clear rc ht2 hl2
            go_wp2_with fail
            refine hC.mono ?_; rintro e w' ⟨rfl, rfl⟩
            clear hC
            go_wp2_with fail
            go_roundw
            case rel => exact ⟨l.drop 1, _, _, by rw [HL2.out], by rw [HL2.out]; exact RC.out, HT2.out, by rw [HL2.out]; omega, by rw [HL2.out]; omega, HD2.out, HB2.out⟩
            case measure => simp [lenOf]; omega
          | true =>
            go_wp2_with fail
            refine hC.mono ?_; rintro e w' ⟨rfl, rfl⟩
            clear hC
            go_wp2_with fail
            refine hCl.mono ?_; rintro e w4 ⟨r, rfl, own, hb4⟩
            have q4 := trip_stp HD2.out hb4
            have hB4 := HB2.out.trans (hb4.mono (by have := HD2.out.lt; omega))
            have rr := Row.of_bytes own (fun z hz => HR2.out.all_byte z hz)
            obtain ⟨ar, cr, rfl⟩ := rr.shape L HL.out
            have hlt : B < wr.heap.size := HD2.out.lt
            have HOw := Lib.hid own; have HRr := Lib.hid rr; have Q4 := Lib.hid q4; have HB4 := Lib.hid hB4
            have hoff := rr.off_trip q4
            have HOff := Lib.hid hoff
            clear hCl own rr hB4 hb4 hoff
            have f0 := q4.free 0; have f1 := q4.free 1; have f2 := q4.free 2; have x0 := q4.cell0; have x1 := q4.cell1; have x2 := q4.cell2; have xl := q4.lt
            clear q4
            go_wp2_with fail
            refine bodyPost_ret (item_ret1 rfl rfl (trip3 Q4.out _ _ _)) rfl ?_
            obtain rfl : l = intB n := by rw [← HT.out]; exact (trimI_stop (.inr HM.out)).symm
            refine ⟨⟨ar, cr, by rw [HL.out], ?_⟩, bel3' HB4.out (Nat.le_refl _) _ _ _⟩
            · show Row .u8 _ (.slice ar (intB n).length cr) (intB n)
              rw [HL.out]; exact HRr.out.aside3 HOff.out _ _ _
        · have h1' : ¬ (1 : Int) < (L : Int) := by omega
          go_wp2_with fail
          refine hCl.mono ?_; rintro e w4 ⟨r, rfl, own, hb4⟩
          have q4 := trip_stp HD2.out hb4
          have hB4 := HB2.out.trans (hb4.mono (by have := HD2.out.lt; omega))
          have rr := Row.of_bytes own (fun z hz => HR2.out.all_byte z hz)
          obtain ⟨ar, cr, rfl⟩ := rr.shape L HL.out
          have hlt : B < wr.heap.size := HD2.out.lt
          have HOw := Lib.hid own; have HRr := Lib.hid rr; have Q4 := Lib.hid q4; have HB4 := Lib.hid hB4
          have hoff := rr.off_trip q4
          have HOff := Lib.hid hoff
          clear hCl own rr hB4 hb4 hoff
          have f0 := q4.free 0; have f1 := q4.free 1; have f2 := q4.free 2; have x0 := q4.cell0; have x1 := q4.cell1; have x2 := q4.cell2; have xl := q4.lt
          clear q4
          go_wp2_with fail
          refine bodyPost_ret (item_ret1 rfl rfl (trip3 Q4.out _ _ _)) rfl ?_
          obtain rfl : l = intB n := by rw [← HT.out]; exact (trimI_stop (.inl (by rw [HL.out]; omega))).symm
          refine ⟨⟨ar, cr, by rw [HL.out], ?_⟩, bel3' HB4.out (Nat.le_refl _) _ _ _⟩
          · show Row .u8 _ (.slice ar (intB n).length cr) (intB n)
            rw [HL.out]; exact HRr.out.aside3 HOff.out _ _ _
end Go.Proofs.YtlaidjgdipacgaaGreatDoor
end

section
namespace Go.Proofs.YtlaidjgdipacgaaGreatDoor
open Go.RowKit
theorem int128 : intB 128 = [0, 128] := by decide
def it128 : Dm.It := .mk 2 [0, 128] []
/-- What Int makes of 128. -/
theorem Int_128 (w : World) : Calls Tryz.prog 13 #[.int .i64 128] w fun e w' => (∃ a c, e = .returned (.agg #[.int .i64 2, .slice a 2 c, .slice none 0 0]) ∧ Row .u8 w' (.slice a 2 c) [0, 128]) ∧ Below w.heap.size w w' := by
  have h := Int_any 128 w
  rw [int128] at h
  exact h
theorem bytes4 : ∀ x ∈ ([2, 2, 0, 128] : List Int), byte x := by unfold byte; decide
theorem Put_128 (a : Option Addr) (c : Nat) (w : World) (hk : KindsAt w) (hr : Row .u8 w (.slice a 2 c) [0, 128]) :
    Calls Tryz.prog 12 #[.agg #[.int .i64 2, .slice a 2 c, .slice none 0 0]] w fun e w' => (∃ a c, e = .returned (.tuple #[.slice a 4 c, .int .i64 0]) ∧ Row .u8 w' (.slice a 4 c) [2, 2, 0, 128]) ∧ Below w.heap.size w w' := by
  have hp : ItP w (.slice a 2 c) (.slice none 0 0) it128 := ⟨by decide, hr, ItsV.nil _⟩
  refine (Put_any it128 (by decide) _ _ w hk hp).mono ?_
  rintro e w' ⟨h, hb⟩
  refine ⟨?_, hb⟩
  unfold Putted at h
  rw [if_pos (show Dm.may 8 it128 = true by decide), if_pos (show Dm.len it128 ≤ 8192 by decide)] at h
  obtain ⟨a', c', rfl, own⟩ := h
  exact ⟨a', c', rfl, Row.of_bytes own bytes4⟩
end Go.Proofs.YtlaidjgdipacgaaGreatDoor
end
