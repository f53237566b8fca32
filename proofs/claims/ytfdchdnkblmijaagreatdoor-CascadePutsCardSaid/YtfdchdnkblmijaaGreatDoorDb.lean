/-
  Walks over package der: a text's bytes, find.
-/
import Derived.Test.YtfdchdnkblmijaaGreatDoorDa
import Derived.Test.YtfdchdnkblmijaaGreatDoorRs
import Derived.Laws.EntriesVeiled
namespace Go.Proofs.YtfdchdnkblmijaaGreatDoor
open Go.RowKit

/-- All of them may stand in a text. -/
def allC (l : List Int) : Bool := l.all okC
set_option maxRecDepth 100000 in
set_option maxHeartbeats 1000000 in
theorem IndexB_any (v : Value) (l : List Int) (w : World) (h : Row .u8 w v l) (hl : l.length ≤ 140737488355328) :
    Calls Tryz.prog 150 #[v, .func (.func 148) #[] #[]] w fun e w' =>
      (∃ r : Int, e = .returned (.int .i64 r) ∧ ((r = -1 ∧ allC l = true) ∨ (0 ≤ r ∧ allC l = false))) ∧ w = w' := by
  have hby := Lib.hid h.all_byte
  obtain ⟨a, cap, rfl⟩ := h.shape l.length rfl
  have HR := Lib.hid h
  clear h
  go_enter Tryz.func150, Tryz.ntmps150
  go_wp2_with fail
  go_loop [5, 8] (fun _ i => ∃ k : Nat, i = .int .i64 k ∧ k ≤ l.length ∧ Hid ((l.take k).all okC = true)) (fun _ i => l.length - (intOf i).toNat)
  case atStart => exact ⟨0, rfl, Nat.zero_le _, Lib.hid (by simp)⟩
  case round =>
    obtain ⟨k, rfl, hk, Hall⟩ := hrel
    have k0 : (0 : Int) ≤ (k : Int) := by omega
    have e1 : IntKind.i64.wrap ((k : Int) + 1) = (k : Int) + 1 := IntWalk.i64_in _ (by omega)
    by_cases hlt : k < l.length
    · have k1 : (k : Int) < (l.length : Int) := by omega
      obtain ⟨b, off, rfl, hbl, hc⟩ := HR.out.cellAt k hlt
      obtain ⟨x, hx⟩ : ∃ x, l[k]?.getD 0 = x := ⟨_, rfl⟩
      rw [hx] at hc
      have hxb : byte x := by rw [← hx, List.getElem?_eq_getElem hlt]; exact hby.out _ (List.getElem_mem hlt)
      have htk : l.take (k + 1) = l.take k ++ [x] := by rw [List.take_add_one, ← hx, List.getElem?_eq_getElem hlt]; rfl
      have HT := Lib.hid htk
      have hC := kChar_any x w hxb
      have hmem : x ∈ l := by rw [← hx, List.getElem?_eq_getElem hlt]; exact List.getElem_mem hlt
      have HM := Lib.hid hmem
      clear hx hxb htk hmem
      cases hq : okC x with
      | true =>
        rw [hq] at hC
        have HQ := Lib.hid hq
        clear hq
        go_wp2_with fail
        refine hC.mono ?_; rintro e w2 ⟨rfl, rfl⟩
        clear hC
        go_wp2_with fail
        go_round
        case rel => exact ⟨k + 1, by go_num, by omega, Lib.hid (by rw [HT.out, List.all_append, Hall.out]; simp [HQ.out])⟩
        case measure => simp [intOf]; omega
      | false =>
        rw [hq] at hC
        have HQ := Lib.hid hq
        clear hq
        go_wp2_with fail
        refine hC.mono ?_; rintro e w2 ⟨rfl, rfl⟩
        clear hC
        go_wp2_with fail
        go_ret
        exact ⟨⟨k, rfl, .inr ⟨by omega, by rw [Bool.eq_false_iff]; intro h; unfold allC at h; have := List.all_eq_true.1 h x HM.out; rw [HQ.out] at this; cases this⟩⟩, rfl⟩
    · obtain rfl : k = l.length := by omega
      go_wp2_with fail
      go_ret
      exact ⟨⟨-1, rfl, .inl ⟨rfl, by have := Hall.out; rwa [List.take_length] at this⟩⟩, rfl⟩

theorem ContainsB_any (v : Value) (l : List Int) (w : World) (h : Row .u8 w v l) (hl : l.length ≤ 140737488355328) :
    Calls Tryz.prog 147 #[v, .func (.func 148) #[] #[]] w fun e w' => e = .returned (.bool (!allC l)) ∧ w = w' := by
  have hI := IndexB_any v l w h hl
  obtain ⟨a, cap, rfl⟩ := h.shape l.length rfl
  clear h
  obtain ⟨y, hy⟩ : ∃ y, allC l = y := ⟨_, rfl⟩
  rw [hy] at hI ⊢
  clear hy
  go_enter Tryz.func147, Tryz.ntmps147
  go_wp2_with fail
  refine hI.mono ?_; rintro e w1 ⟨⟨r, rfl, hr⟩, rfl⟩
  rcases hr with ⟨rfl, rfl⟩ | ⟨h0, rfl⟩
  · go_wp2_with fail
    go_ret
    exact ⟨rfl, rfl⟩
  · go_wp2_with fail
    go_ret
    exact ⟨ret_bool (by simp), rfl⟩
theorem kText_any (v : Value) (l : List Int) (w : World) (h : Row .u8 w v l) (hl : l.length ≤ 140737488355328) :
    Calls Tryz.prog 146 #[v] w fun e w' => e = .returned (.bool (Dm.mayB 12 l)) ∧ w = w' := by
  have hC := ContainsB_any v l w h hl
  have hm : Dm.mayB 12 l = allC l := rfl
  rw [hm]
  obtain ⟨a, cap, rfl⟩ := h.shape l.length rfl
  obtain ⟨x, hx⟩ : ∃ x, allC l = x := ⟨_, rfl⟩
  rw [hx] at hC ⊢
  clear h hx hm
  go_enter Tryz.func146, Tryz.ntmps146
  go_wp2_with fail
  refine hC.mono ?_; rintro e w1 ⟨rfl, rfl⟩
  go_wp2_with fail
  go_ret
  exact ⟨ret_bool (by simp), rfl⟩
/-- A kind's function tells whether the content may be. -/
theorem kFn_any (i : Nat) (hi : i < 5) (v : Value) (l : List Int) (w : World) (h : Row .u8 w v l) (hl : l.length ≤ 140737488355328) :
    Calls Tryz.prog (kFn i) #[v] w fun e w' => e = .returned (.bool (Dm.mayB (kTag i) l)) ∧ w = w' := by
  match i, hi with
  | 0, _ => exact kBool_any v l w h hl
  | 1, _ => exact least_any v l w h hl
  | 2, _ => exact kOct_any v l w
  | 3, _ => exact kText_any v l w h hl
  | 4, _ => exact kSeq_any v l w h

theorem boxed_stp {w w' : World} {B : Nat} {t : TypeId} {v : Value} (h : Boxed w B t v) (s : Below w.heap.size w w') : Boxed w' B t v := (s.block B h.lt).trans h
/-- find's closure. -/
theorem find1_any (x : Int) (f : Value) (t : Int) (N : Nat) (w : World) (hN : Boxed w N 3 (.int .i64 t)) :
    Calls Tryz.prog 101 #[.agg #[.int .i64 x, f], .pointer (some ⟨N, 0, none⟩)] w fun e w' => e = .returned (.bool (decide (x = t))) ∧ Below w.heap.size w w' := by
  have bN := hN.alloc (.cells #[.int .i64 x, f] 109)
  have cN := bN.cell
  have hne : ¬ N = w.heap.size := by have := hN.lt; omega
  clear bN hN
  by_cases hx : x = t
  · subst hx
    go_enter Tryz.func101, Tryz.ntmps101
    go_wp2_with fail
    go_ret
    exact ⟨ret_bool (by simp), (Below.refl _ _).alloc (Nat.le_refl _) _⟩
  · go_enter Tryz.func101, Tryz.ntmps101
    go_wp2_with fail
    go_ret
    exact ⟨ret_bool (by simp [hx, Bool.beq_eq_decide_eq]), (Below.refl _ _).alloc (Nat.le_refl _) _⟩

set_option maxRecDepth 100000 in
set_option maxHeartbeats 1000000 in
theorem IndexK_any (t : Int) (N : Nat) (w : World) (hN : Boxed w N 3 (.int .i64 t)) (hk : KindsAt w) :
    Calls Tryz.prog 100 #[.slice (some ⟨0, 0, none⟩) 5 5, .func (.func 101) #[] #[.pointer (some ⟨N, 0, none⟩)]] w fun e w' =>
      (∃ r : Int, e = .returned (.int .i64 r) ∧ ((r = -1 ∧ Dm.known t = false) ∨ (∃ k : Nat, k < 5 ∧ r = k ∧ kTag k = t))) ∧ Below w.heap.size w w' := by
  have BN := Lib.hid hN; have HK := Lib.hid hk
  clear hN hk
  go_enter Tryz.func100, Tryz.ntmps100
  go_wp2_with fail
  go_loopw [5, 8] (fun _ i wr => ∃ k : Nat, i = .int .i64 k ∧ k ≤ 5 ∧ Hid (∀ j, j < k → kTag j ≠ t) ∧ Below w.heap.size w wr) (fun _ i _ => 5 - (intOf i).toNat)
  case atStart => exact ⟨0, rfl, Nat.zero_le _, Lib.hid (fun j hj => absurd hj (Nat.not_lt_zero _)), Below.refl _ _⟩
  case round =>
    obtain ⟨k, rfl, hk, Hall, hb⟩ := hrel
    have k0 : (0 : Int) ≤ (k : Int) := by omega
    have e1 : IntKind.i64.wrap ((k : Int) + 1) = (k : Int) + 1 := IntWalk.i64_in _ (by omega)
    by_cases hlt : k < 5
    · have k1 : (k : Int) < 5 := by omega
      obtain ⟨c0, c1⟩ := (HK.out.below hb) k hlt
      obtain ⟨x, hx⟩ : ∃ x, kTag k = x := ⟨_, rfl⟩
      rw [hx] at c0
      have HX := Lib.hid hx
      have hC := find1_any x (.func (.func (kFn k)) #[] #[]) t N wr (boxed_stp BN.out hb)
      have hbs := hb.size
      clear hx
      by_cases hq : x = t
      · rw [decide_eq_true hq] at hC
        have HQ := Lib.hid hq
        clear hq
        go_wp2_with fail
        refine hC.mono ?_; rintro e w2 ⟨rfl, hb2⟩
        have hb3 := hb.trans (hb2.mono hbs)
        clear hC hb2 c0 c1
        go_wp2_with fail
        go_ret
        exact ⟨⟨k, rfl, .inr ⟨k, hlt, rfl, by rw [HX.out, HQ.out]⟩⟩, hb3⟩
      · rw [decide_eq_false hq] at hC
        have HQ := Lib.hid hq
        clear hq
        go_wp2_with fail
        refine hC.mono ?_; rintro e w2 ⟨rfl, hb2⟩
        have hb3 := hb.trans (hb2.mono hbs)
        clear hC hb2 c0 c1
        go_wp2_with fail
        go_roundw
        case rel =>
          refine ⟨k + 1, by go_num, by omega, Lib.hid (fun j hj => ?_), hb3⟩
          rcases Nat.lt_or_ge j k with h | h
          · exact Hall.out j h
          · obtain rfl : j = k := by omega
            rw [HX.out]; exact HQ.out
        case measure => simp [intOf]; omega
    · obtain rfl : k = 5 := by omega
      go_wp2_with fail
      go_ret
      refine ⟨⟨-1, rfl, .inl ⟨rfl, ?_⟩⟩, hb⟩
      rw [Bool.eq_false_iff]
      intro h
      obtain ⟨j, hj, e⟩ := (known_iff t).1 h
      exact Hall.out j hj e

theorem kind_ret {tmps : Array Value} {W : World} {g : Nat} {fn : Func} {p q : Tmp} (hr : fn.results = #[.cell p 109, .tmp q]) (hp : tmps.getD p undef = .pointer (some ⟨g, 0, none⟩)) {x y : Value} (hd : Duo W g 109 x y) :
    (results fn tmps).run Tryz.prog W = .ok (.tuple #[.agg #[x, y], tmps.getD q undef]) W :=
  results_cell_tmp hr _ _ g _ _ _ _ hp hd Tryz.underlying109 rfl (by kernel_rfl)
set_option maxRecDepth 100000 in
set_option maxHeartbeats 1000000 in
theorem find_any (t : Int) (w : World) (hk : KindsAt w) :
    Calls Tryz.prog 79 #[.int .i64 t] w fun e w' =>
      ((Dm.known t = false ∧ e = .returned (.tuple #[.agg #[.int .i64 0, .nilFunc], .bool false])) ∨ (∃ i, i < 5 ∧ kTag i = t ∧ e = .returned (.tuple #[.agg #[.int .i64 t, .func (.func (kFn i)) #[] #[]], .bool true]))) ∧ Below w.heap.size w w' := by
  obtain ⟨B, hB⟩ : ∃ B, w.heap.size = B := ⟨_, rfl⟩
  have hBG : 0 < B := by have := hk.lt; omega
  have hB0 : ¬ B = 0 := by omega
  have n0 := (Boxed.new w 3 (.int .i64 t)).alloc (.cells #[.int .i64 0, .nilFunc] 109)
  have z0 := Duo.new' (w.alloc (.cells #[.int .i64 t] 3)) 109 (.int .i64 0) .nilFunc (B + 1) (by simp [hB])
  have hb0 := ((Below.refl w.heap.size w).alloc (Nat.le_refl _) (.cells #[.int .i64 t] 3)).alloc (by simp) (.cells #[.int .i64 0, .nilFunc] 109)
  obtain ⟨W, hW⟩ : ∃ W, (w.alloc (.cells #[.int .i64 t] 3)).alloc (.cells #[.int .i64 0, .nilFunc] 109) = W := ⟨_, rfl⟩
  rw [hW] at n0 z0 hb0
  rw [hB] at n0
  have HW := Lib.hid hW; have HB := Lib.hid hB
  have k0 := hk.below hb0
  have hI := IndexK_any t B W n0 k0
  have K0 := Lib.hid k0
  clear hW hB k0 hk n0
  go_enter Tryz.func79, Tryz.ntmps79
  go_wp2_with fail
  rw [HW.out]
  (try rw [HB.out])
  (try go_wp2_with fail)
  refine hI.mono ?_; rintro e w1 ⟨⟨r, rfl, hr⟩, hb⟩
  have hB1 := hb0.trans (hb.mono hb0.size)
  have z1 := z0.stp hb
  have k1 := K0.out.below hb
  have wB : w.heap.size ≤ B + 1 := by have := HB.out; omega
  have WB := Lib.hid wB
  have f0 := z1.free 0; have f1 := z1.free 1; have d0 := z1.cell0; have d1 := z1.cell1; have ltz := z1.lt
  clear hI hb z0 hb0 wB
  rcases hr with ⟨rfl, hn⟩ | ⟨k, hk, rfl, ht⟩
  · have HN := Lib.hid hn
    clear hn k1
    go_wp2_with fail
    have hzz := (z1.set0 (.int .i64 0)).set1 .nilFunc
    refine bodyPost_ret (kind_ret rfl rfl hzz) rfl ?_
    exact ⟨.inl ⟨HN.out, rfl⟩, (hB1.setCell WB.out _).setCell WB.out _⟩
  · obtain ⟨c0, c1⟩ := k1 k hk
    rw [ht] at c0
    have HT := Lib.hid ht
    have q0 : (0 : Int) ≤ (k : Int) := by omega
    have q1 : (k : Int) < 5 := by omega
    have n1 : ¬ B + 1 = 0 := by omega
    have n2 : ¬ 0 = B + 1 := by omega
    clear k1 ht
    go_wp2_with fail
    have hzz := (z1.set0 (.int .i64 t)).set1 (.func (.func (kFn k)) #[] #[])
    refine bodyPost_ret (kind_ret rfl rfl hzz) rfl ?_
    exact ⟨.inr ⟨k, hk, HT.out, rfl⟩, (hB1.setCell WB.out _).setCell WB.out _⟩
end Go.Proofs.YtfdchdnkblmijaaGreatDoor
