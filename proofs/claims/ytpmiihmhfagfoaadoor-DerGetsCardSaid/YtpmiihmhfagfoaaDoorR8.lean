/-
  The walk over greatsealref07.read. (Printed by wip/gen_read.py.)
-/
import Derived.Test.YtpmiihmhfagfoaaDoorR7
import Derived.Test.YtpmiihmhfagfoaaDoorR3
import Derived.Test.YtpmiihmhfagfoaaDoorEg
namespace Go.Proofs.YtpmiihmhfagfoaaDoor
open Go.RowKit

/-- The item that stands at a place, that is so deep at most, and where it ends. -/
def readAt (l : List Int) (p d : Nat) : Except Int (Dm.It × Nat) :=
  match Dm.get d (l.drop p) with
  | .error e => .error e
  | .ok (x, r) => .ok (x, l.length - r.length)
def ReadOn (d : Nat) : Prop := ∀ (v : Value) (l : List Int) (p : Nat) (w : World), Row .u8 w v l → l.length ≤ 1000000 → p ≤ l.length →
  Calls Tryd.prog 48 #[v, .int .i64 p, .int .i64 d] w fun e w' => GotAt w.heap.size w' e (readAt l p d) ∧ Below w.heap.size w w'
mutual
theorem wt_len' : ∀ x : Dm.It, Dm.wt x ≤ Dm.len x
  | .mk t b l => by
    unfold Dm.wt Dm.len
    have := wts_lens' l
    have h1 := Dm.lenB_length (b.length + Dm.lens l)
    have : 1 ≤ (Dm.lenB (b.length + Dm.lens l)).length := by rw [h1]; split <;> (try split) <;> omega
    omega
theorem wts_lens' : ∀ l : List Dm.It, Dm.wts l ≤ Dm.lens l
  | [] => by simp [Dm.wts]
  | x :: l => by
    unfold Dm.wts Dm.lens
    have := wt_len' x
    have := wts_lens' l
    omega
end
theorem head_err {l : List Int} {p d : Nat} {e : Int} (h : headR l p = .error e) (hd : 1 ≤ d) : Dm.get d (l.drop p) = .error e ∧ (e = 70 ∨ e = 71) := by
  unfold headR at h
  match hdr : l.drop p, h with
  | [], h => cases h; exact ⟨by cases d <;> rfl, .inl rfl⟩
  | t :: b1, h =>
    simp only at h
    by_cases hk : Dm.known t = true
    · rw [if_neg (by rw [hk]; decide)] at h
      match hl : Dm.lenR b1, h with
      | .error e', h => cases h; exact ⟨get_err hk hd hl, lenR_err hl⟩
      | .ok (n, k), h => cases h
    · rw [if_pos (by simpa using hk)] at h
      cases h
      refine ⟨?_, .inr rfl⟩
      rw [get_d, Dm.getW_cons, show Dm.known t = false by simpa using hk]; rfl
theorem head_ok {l : List Int} {p d n a : Nat} {t : Int} (hby : ∀ y ∈ l, byte y) (h : headR l p = .ok (t, n, a)) (hd : 1 ≤ d) :
    p < a ∧ a ≤ l.length ∧ Dm.known t = true ∧ n < 65536 ∧ Dm.get d (l.drop p) = (if 8192 < a - p + n then .error 71 else if l.length - a < n then .error 70 else
      if t = 48 then
        match Dm.many (subGet d) ((l.drop a).take n).length ((l.drop a).take n) with
        | none => .error 71
        | some ys => .ok (.mk t [] ys, l.drop (a + n))
      else if Dm.mayB t ((l.drop a).take n) then .ok (.mk t ((l.drop a).take n) [], l.drop (a + n)) else .error 71) := by
  unfold headR at h
  match hdr : l.drop p, h with
  | [], h => cases h
  | t' :: b1, h =>
    simp only at h
    by_cases hk : Dm.known t' = true
    · rw [if_neg (by rw [hk]; decide)] at h
      match hl : Dm.lenR b1, h with
      | .error e', h => cases h
      | .ok (n', k), h =>
        cases h
        have hlen : b1.length + 1 = l.length - p := by have := congrArg List.length hdr; rw [List.length_drop, List.length_cons] at this; omega
        obtain ⟨k1, k3, kl, m6⟩ := lenR_lt (fun y hy => hby y (List.mem_of_mem_drop (i := p) (by rw [hdr]; exact List.mem_cons_of_mem _ hy))) hl
        have hda : b1.drop k = l.drop (p + 1 + k) := by
          have : b1 = (l.drop p).drop 1 := by rw [hdr]; rfl
          rw [this, List.drop_drop, List.drop_drop]; congr 1; omega
        refine ⟨by omega, by omega, hk, m6, ?_⟩
        rw [get_ok hk hd hl]
        unfold getOk
        rw [hda, List.drop_drop, show b1.length - k = l.length - (p + 1 + k) by omega, show 1 + k + n = p + 1 + k - p + n by omega]
        rfl
    · rw [if_pos (by simpa using hk)] at h
      cases h
theorem seq_step' {w wr V w5 : World} {B : Nat} {t2 : TypeId} {lv v' vb vl : Value} {ys : List Dm.It} {xs : List Value} {y : Dm.It} {x0 x1 : Value}
    (hd : Trip wr B t2 x0 x1 lv) (ho : wr.ownsRow (B + 1) 25 3 lv ys.length xs) (hc : Cells (B + 1) lv.ownBlock wr xs ys) (hb : Below B w wr)
    (hV : Below wr.heap.size wr V) (hy : Own wr.heap.size none V vb vl y)
    (hg : V.grownBy w5 lv.ownBlock) (own5 : w5.ownsRow (B + 1) 25 3 v' (ys.length + 1) (xs ++ [.int .i64 y.tag, vb, vl])) (hat : v'.ownBlock = lv.ownBlock ∨ v'.ownBlock = some V.heap.size) :
    Trip (w5.setCell ⟨B, 2, none⟩ v') B t2 x0 x1 v' ∧ (w5.setCell ⟨B, 2, none⟩ v').ownsRow (B + 1) 25 3 v' (ys ++ [y]).length (xs ++ [.int .i64 y.tag, vb, vl]) ∧
      Cells (B + 1) v'.ownBlock (w5.setCell ⟨B, 2, none⟩ v') (xs ++ [.int .i64 y.tag, vb, vl]) (ys ++ [y]) ∧ Below B w (w5.setCell ⟨B, 2, none⟩ v') := by
  have hlt := hd.lt
  have hgo : ∀ k, lv.ownBlock = some k → B + 1 ≤ k ∧ k < wr.heap.size := fun k hk => own_at ho hk
  have hdV : Trip V B t2 x0 x1 lv := (hV.block B hlt).trans hd
  have hd5 : Trip w5 B t2 x0 x1 lv := (hg.block B (Nat.lt_of_lt_of_le hlt hV.size) (fun e => by have := hgo B e.symm; omega)).trans hdV
  have far : ∀ k, k ≠ B → (w5.setCell ⟨B, 2, none⟩ v').heap[k]? = w5.heap[k]? := fun k hk => Below.heap_setCell w5 ⟨B, 2, none⟩ v' k hk
  have hss : (w5.setCell ⟨B, 2, none⟩ v').heap.size = w5.heap.size := by simp
  have c1 : Cells (B + 1) lv.ownBlock V (xs ++ [.int .i64 y.tag, vb, vl]) (ys ++ [y]) :=
    (hc.kept (Keep.of_below hV (Nat.le_refl _))).snoc (hy.of_new (by omega) (fun k hk => by have := hgo k hk; omega))
  have c2 := c1.moved (Keep.of_grown hg) hat
  have c3 := c2.kept (V := w5.setCell ⟨B, 2, none⟩ v') (show Keep (B + 1) v'.ownBlock w5 _ from ⟨by rw [hss]; exact Nat.le_refl _, fun k hk _ _ => far k (by omega)⟩)
  have hbV : Below B w V := hb.trans (hV.mono (by omega))
  have hb5 : Below B w w5 := ⟨hg.os.trans hbV.os, hg.tape.trans hbV.tape, hg.output.trans hbV.output, Nat.le_trans hbV.size hg.size, fun k hk => (hg.block k (by have := hV.size; omega) (fun e => by have := hgo k e.symm; omega)).trans (hbV.block k hk)⟩
  refine ⟨hd5.set2 v', ?_, c3, hb5.setCell (Nat.le_refl _) _⟩
  rw [List.length_append]
  refine ⟨own5.1, own5.2.imp_right ?_⟩
  rintro ⟨g, cap, cur, e, h1, h2, r⟩
  exact ⟨g, cap, cur, e, h1, (far g (by omega)).trans h2, r⟩
theorem read_ret {tmps : Array Value} {W : World} {g : Nat} (hp : tmps.getD 6 undef = .pointer (some ⟨g, 0, none⟩)) {x y z : Value} (hd : Trip W g 25 x y z) :
    (results Tryd.f48 tmps).run Tryd.prog W = .ok (.tuple #[.agg #[x, y, z], tmps.getD 7 undef, tmps.getD 8 undef]) W := item_ret (fn := Tryd.f48) (p := 6) rfl hp hd

set_option maxRecDepth 100000 in
set_option maxHeartbeats 8000000 in
theorem read_of (d : Nat) (hd1 : 1 ≤ d) (hd8 : d ≤ 8) (ih : ∀ d', d' + 1 = d → 1 ≤ d' → ReadOn d') : ReadOn d := by
  intro v l p w h hl hpl
  have hby := h.all_byte
  obtain ⟨a0, c, rfl⟩ := h.shape l.length rfl
  have hlc : l.length ≤ c := by obtain ⟨_, _, e', hc, _⟩ := h; cases e'; exact hc
  obtain ⟨R, hR⟩ : ∃ R, readAt l p d = R := ⟨_, rfl⟩
  rw [hR]
  obtain ⟨B, hB⟩ : ∃ B, w.heap.size = B := ⟨_, rfl⟩
  rw [hB]
  have q0 := Trip.new w 25 (.int .i64 0) (.slice none 0 0) (.slice none 0 0)
  have hb0 := (Below.refl w.heap.size w).alloc (Nat.le_refl _) (.cells #[.int .i64 0, .slice none 0 0, .slice none 0 0] 25)
  obtain ⟨W, hW⟩ : ∃ W, w.alloc (.cells #[.int .i64 0, .slice none 0 0, .slice none 0 0] 25) = W := ⟨_, rfl⟩
  rw [hW] at q0 hb0
  have r0 := h.below hb0
  rw [hB] at q0 hb0
  obtain ⟨n0, hn0⟩ : ∃ n, l.length = n := ⟨_, rfl⟩
  have hC := head_any _ l p W r0 hl hpl
  rw [hn0] at hl hpl hlc r0 hC ⊢
  have HR := Lib.hid hR; have HW := Lib.hid hW; have HB := Lib.hid hB; have R0 := Lib.hid r0; have HBy := Lib.hid hby; have HB0 := Lib.hid hb0; have Q0 := Lib.hid q0; have HN0 := Lib.hid hn0
  clear hR hW hB r0 hby hb0 q0 h hn0
  go_enter Tryd.func48, Tryd.ntmps48
  go_wp2_with fail
  rw [HW.out]
  (try rw [HB.out])
  (try go_wp2_with fail)
  refine hC.mono ?_; rintro e w1 ⟨rfl, hb⟩
  have hB1 := HB0.out.trans (hb.mono (by have := Q0.out.lt; omega))
  have q1 := trip_stp Q0.out hb
  have r1 := R0.out.below hb
  have HB1 := Lib.hid hB1; have Q1 := Lib.hid q1; have R1 := Lib.hid r1
  clear hC hb hB1 q1 r1
  cases hh : headR l p with
  | error e =>
    rw [show headV (.error e) = .agg #[.int .i64 0, .int .i64 0, .int .i64 0, .int .i64 e] from rfl]
    obtain ⟨hg, he⟩ := head_err hh hd1
    have hr : R = .error e := by rw [← HR.out, readAt, hg]
    have HE := Lib.hid hr
    have hB2 := HB1.out.alloc (Nat.le_of_lt Q1.out.lt) (.cells #[.int .i64 0, .int .i64 0, .int .i64 0, .int .i64 e] 85)
    have q2 := Q1.out.alloc (.cells #[.int .i64 0, .int .i64 0, .int .i64 0, .int .i64 e] 85)
    have HB2 := Lib.hid hB2; have Q2 := Lib.hid q2
    clear hg hr hh hB2
    have f0 := q2.free 0; have f1 := q2.free 1; have f2 := q2.free 2; have x0 := q2.cell0; have x1 := q2.cell1; have x2 := q2.cell2; have xl := q2.lt
    clear q2
    rcases he with rfl | rfl
    all_goals
      go_wp2_with fail
      go_region
      all_goals
        go_wp2_with fail
        refine bodyPost_ret (read_ret rfl (trip3 Q2.out _ _ _)) rfl ?_
        exact ⟨by rw [HE.out]; rfl, (bel3' HB2.out (Nat.le_refl _) _ _ _).drew⟩
  | ok q =>
    obtain ⟨t, n, a⟩ := q
    rw [show headV (.ok (t, n, a)) = .agg #[.int .i64 t, .int .i64 n, .int .i64 a, .int .i64 0] from rfl]
    obtain ⟨hpa, hal, hkn, hn6, hg⟩ := head_ok HBy.out hh hd1
    rw [HN0.out] at hal hg
    have hRR : R = match Dm.get d (l.drop p) with | .error e => .error e | .ok (x, r) => .ok (x, n0 - r.length) := by rw [← HR.out, readAt, HN0.out]
    obtain ⟨b, off, rfl, -, -⟩ := R1.out.cellAt p (by rw [HN0.out]; omega)
    have HG := Lib.hid hg; have HRR := Lib.hid hRR
    clear hg hRR hh
    have f0 := Q1.out.free 0; have f1 := Q1.out.free 1; have f2 := Q1.out.free 2; have x0 := Q1.out.cell0; have x1 := Q1.out.cell1; have x2 := Q1.out.cell2; have xl := Q1.out.lt
    have e1 : IntKind.i64.wrap ((a : Int) - (p : Int)) = (a : Int) - (p : Int) := IntWalk.i64_in _ (by omega)
    have e2 : IntKind.i64.wrap ((a : Int) - (p : Int) + (n : Int)) = (a : Int) - (p : Int) + (n : Int) := IntWalk.i64_in _ (by omega)
    by_cases h8 : 8192 < a - p + n
    · have hr : R = .error 71 := by rw [HRR.out, HG.out, if_pos h8]
      have HE := Lib.hid hr
      have h8' : (8192 : Int) < (a : Int) - (p : Int) + (n : Int) := by omega
      clear hr h8
      go_wp2_with fail
      refine bodyPost_ret (read_ret rfl ((trip3 Q1.out (.int .i64 0) (.slice none 0 0) (.slice none 0 0)).alloc (.cells #[.int .i64 t, .int .i64 n, .int .i64 a, .int .i64 0] 85))) rfl ?_
      exact ⟨by rw [HE.out]; rfl, (bel3' HB1.out (Nat.le_refl _) _ _ _).alloc (by simp; exact Nat.le_of_lt Q1.out.lt) _⟩
    have h8' : ¬ (8192 : Int) < (a : Int) - (p : Int) + (n : Int) := by omega
    have hg2 := HG.out
    rw [if_neg h8] at hg2
    have e3 : IntKind.i64.wrap ((n0 : Int) - (a : Int)) = (n0 : Int) - (a : Int) := IntWalk.i64_in _ (by omega)
    by_cases hm : n0 - a < n
    · rw [if_pos hm] at hg2
      have hr : R = .error 70 := by rw [HRR.out, hg2]
      have HE := Lib.hid hr
      have hm' : (n0 : Int) - (a : Int) < (n : Int) := by omega
      clear hr hg2 hm h8
      go_wp2_with fail
      refine bodyPost_ret (read_ret rfl ((trip3 Q1.out (.int .i64 0) (.slice none 0 0) (.slice none 0 0)).alloc (.cells #[.int .i64 t, .int .i64 n, .int .i64 a, .int .i64 0] 85))) rfl ?_
      exact ⟨by rw [HE.out]; rfl, (bel3' HB1.out (Nat.le_refl _) _ _ _).alloc (by simp; exact Nat.le_of_lt Q1.out.lt) _⟩
    rw [if_neg hm] at hg2
    have hm' : ¬ (n0 : Int) - (a : Int) < (n : Int) := by omega
    obtain ⟨E, hE⟩ : ∃ E, a + n = E := ⟨_, rfl⟩
    have hEn : E ≤ n0 := by omega
    have haE : a ≤ E := by omega
    have e4 : IntKind.i64.wrap ((a : Int) + (n : Int)) = (E : Int) := (IntWalk.i64_in _ (by omega)).trans (by omega)
    rw [hE] at hg2
    have hEnd : n0 - (l.drop E).length = E := by rw [List.length_drop, HN0.out]; omega
    have HG2 := Lib.hid hg2; have HE0 := Lib.hid hE; have HEnd := Lib.hid hEnd
    clear hg2 HG hE hm h8 hEnd
    by_cases h48 : t = 48
    case neg =>
      have h48' : (t != 48) = true := by simpa using h48
      obtain ⟨WX, hWX⟩ : ∃ WX, (w1.alloc (.cells #[.int .i64 t, .int .i64 n, .int .i64 a, .int .i64 0] 85)).alloc (.cells #[.int .i64 t, .slice none 0 0, .slice none 0 0] 25) = WX := ⟨_, rfl⟩
      have hbX : Below w1.heap.size w1 WX := by rw [← hWX]; exact ((Below.refl _ w1).alloc (Nat.le_refl _) _).alloc (by simp) _
      have hXs : WX.heap.size = w1.heap.size + 2 := by rw [← hWX, World.size_alloc, World.size_alloc]
      have qX : Trip WX (w1.heap.size + 1) 25 (.int .i64 t) (.slice none 0 0) (.slice none 0 0) := by
        rw [← hWX]
        have := Trip.new (w1.alloc (.cells #[.int .i64 t, .int .i64 n, .int .i64 a, .int .i64 0] 85)) 25 (.int .i64 t) (.slice none 0 0) (.slice none 0 0)
        rwa [World.size_alloc] at this
      have a0 : AccR WX (WX.alloc (.cells #[] 5)) (.slice (some ⟨w1.heap.size + 2, 0, none⟩) 0 0) [] := by
        rw [← hXs]; exact AccR.empty WX
      have HWX := Lib.hid hWX; have HBX := Lib.hid hbX; have QX := Lib.hid qX; have A0 := Lib.hid a0; have HXs := Lib.hid hXs
      clear hWX hbX qX a0 hXs
      have g1 : (0 : Int) ≤ (a : Int) := by omega
      have g2 : (a : Int) ≤ (E : Int) := by omega
      have g3 : (E : Int) ≤ (c : Int) := by omega
      obtain ⟨C, hC⟩ : ∃ C, (l.drop a).take n = C := ⟨_, rfl⟩
      have hCn : C.length = n := by rw [← hC, List.length_take, List.length_drop, HN0.out]; have := HE0.out; omega
      have hg3 := HG2.out
      rw [if_neg h48, hC] at hg3
      have HCn := Lib.hid hCn; have HG3 := Lib.hid hg3
      clear hCn hg3
      by_cases hca : c = a
      · obtain rfl : n = 0 := by have := HE0.out; omega
        obtain rfl : E = a := by have := HE0.out; omega
        have hC0 : C = [] := List.eq_nil_of_length_eq_zero HCn.out
        have rC : Row .u8 WX (.slice (some ⟨b, off, none⟩) 0 0) C := by rw [hC0]; exact Row.empty _ _ _ _ (by unfold maxLen; omega) (fun h => by cases h)
        have RC := Lib.hid rC
        have hwt : (Lit.int .i64 t).wf = true := by
          obtain ⟨i, hi, hti⟩ := (known_iff t).1 hkn
          match i, hi with
          | 0, _ => rw [← hti]; decide
          | 1, _ => rw [← hti]; decide
          | 2, _ => rw [← hti]; decide
          | 3, _ => rw [← hti]; decide
          | 4, _ => rw [← hti]; decide
        clear rC hC0
        subst hca
        have hC0 : C = [] := List.eq_nil_of_length_eq_zero HCn.out
        obtain ⟨W5, hW5⟩ : ∃ V, ((w1.alloc (.cells #[.int .i64 t, .int .i64 (0 : Nat), .int .i64 c, .int .i64 0] 85)).alloc (.cells #[.int .i64 t, .slice (some ⟨w1.heap.size + 1 + 1, 0, none⟩) 0 0, .slice none 0 0] 25)).alloc (.cells #[] 5) = V := ⟨_, rfl⟩
        have HI : Hid (ItP W5 (.slice (some ⟨w1.heap.size + 1 + 1, 0, none⟩) 0 0) (.slice none 0 0) (.mk t C [])) := Lib.hid ⟨hwt, by rw [hC0]; exact Row.empty _ _ _ _ (by unfold maxLen; omega) (fun h => by cases h), ItsV.nil _⟩
        have OW5 : Hid (Own (B + 1) none W5 (.slice (some ⟨w1.heap.size + 1 + 1, 0, none⟩) 0 0) (.slice none 0 0) (.mk t C [])) := Lib.hid (Own.bytes hwt (by rw [hC0]; exact Row.empty _ _ _ _ (by unfold maxLen; omega) (fun h => by cases h)) (by rintro bb oo nn cc e0 h0; cases e0; omega))
        have QX5 : Hid (Trip W5 (w1.heap.size + 1) 25 (.int .i64 t) (.slice (some ⟨w1.heap.size + 1 + 1, 0, none⟩) 0 0) (.slice none 0 0)) := Lib.hid (by
          rw [← hW5]
          have := (Trip.new (w1.alloc (.cells #[.int .i64 t, .int .i64 (0 : Nat), .int .i64 c, .int .i64 0] 85)) 25 (.int .i64 t) (.slice (some ⟨w1.heap.size + 1 + 1, 0, none⟩) 0 0) (.slice none 0 0)).alloc (.cells #[] 5)
          rwa [World.size_alloc] at this)
        have QB5 : Hid (Trip W5 B 25 (.int .i64 0) (.slice none 0 0) (.slice none 0 0)) := Lib.hid (by rw [← hW5]; exact ((Q1.out.alloc _).alloc _).alloc _)
        have BB5 : Hid (Below B w W5) := Lib.hid (by rw [← hW5]; exact ((HB1.out.alloc (Nat.le_of_lt Q1.out.lt) _).alloc (by have := Q1.out.lt; simp; omega) _).alloc (by have := Q1.out.lt; simp; omega) _)
        have HW5 := Lib.hid hW5
        clear hW5 hC0 RC A0 QX HWX HBX HXs
        go_wp2_with fail
        rw [show (Value.int .i64 0) = Value.int .i64 ((0 : Nat) : Int) from rfl] at *
        rw [HW5.out]

        have hfm : Dm.form (.mk t C []) = Dm.mayB t C := by
          rw [form_eq]
          show ((decide (t = 48) || true) && Dm.mayB t C && true) = _
          rw [Bool.or_true, Bool.true_and, Bool.and_true]
        have hC := Form_any (.mk t C []) W5 _ _ HI.out
        obtain ⟨M, hM⟩ : ∃ M, Dm.mayB t C = M := ⟨_, rfl⟩
        have hg4 := HG3.out
        rw [hfm, hM] at hC
        rw [hM] at hg4
        have HG4 := Lib.hid hg4
        clear hfm hM hg4
        refine hC.mono ?_; rintro e w6 ⟨rfl, hb6⟩
        have q6 := trip_stp QX5.out hb6
        have qB6 := trip_stp QB5.out hb6
        have bb6 := BB5.out.trans (hb6.mono (Nat.le_of_lt QB5.out.lt))
        have ow6 := OW5.out.kept (Keep.of_below hb6 (Nat.le_refl _))
        have y0 := q6.cell0; have y1 := q6.cell1; have y2 := q6.cell2
        have f0 := qB6.free 0; have f1 := qB6.free 1; have f2 := qB6.free 2; have x0 := qB6.cell0; have x1 := qB6.cell1; have x2 := qB6.cell2; have xl := qB6.lt
        have QB6 := Lib.hid qB6; have BB6 := Lib.hid bb6; have OW6 := Lib.hid ow6
        clear hC hb6 q6 qB6 bb6 ow6 QX5 QB5 BB5 OW5 HI
        cases M with
        | false =>
          have hr : R = .error 71 := by rw [HRR.out, HG4.out, if_neg (by decide)]
          have HE := Lib.hid hr
          clear hr
          go_wp2_with fail
          refine bodyPost_ret (read_ret rfl (trip3 QB6.out _ _ _)) rfl ?_
          exact ⟨by rw [HE.out]; rfl, bel3' BB6.out (Nat.le_refl _) _ _ _⟩
        | true =>
          have hr : R = .ok (.mk t C [], c) := by rw [HRR.out, HG4.out, if_pos rfl]; simp only [HEnd.out]
          have HE := Lib.hid hr
          clear hr
          go_wp2_with fail
          refine bodyPost_ret (read_ret rfl (trip3 QB6.out _ _ _)) rfl ?_
          rw [HE.out]
          refine ⟨⟨some ⟨w1.heap.size + 1 + 1, 0, none⟩, 0, none, 0, ?_, ?_⟩, bel3' BB6.out (Nat.le_refl _) _ _ _⟩
          · rw [show (Dm.It.mk t C []).b.length = 0 from HCn.out]; rfl
          · rw [show (Dm.It.mk t C []).b.length = 0 from HCn.out]
            exact (OW6.out.kept ⟨by simp, fun g hg _ _ => ((Below.heap_setCell _ ⟨B, 2, none⟩ _ g (show g ≠ B by omega)).trans (Below.heap_setCell _ ⟨B, 1, none⟩ _ g (show g ≠ B by omega))).trans (Below.heap_setCell _ ⟨B, 0, none⟩ _ g (show g ≠ B by omega))⟩).mono (Nat.le_succ B)
      have hca' : a < c := by omega
      have rC := Row.take (Row.cut (R1.out.below HBX.out) a (by rw [HN0.out]; exact hal) hca') n (by rw [List.length_drop, HN0.out]; have := HE0.out; omega)
      rw [Option.map_some, addr_add, hC] at rC
      have hnE : E - a = n := by have := HE0.out; omega
      have RC := Lib.hid rC
      clear rC
      go_wp2_with (first
        | (at_builtin; rw [HWX.out]; refine wpList_plain rfl fun Kx hKx => ?_; refine wp_app (.tmp 54) (.tmp 59) rfl WX.heap.size A0.out.bel.size _ [] rfl A0.out.own _ C (A0.out.row RC.out) rfl (by rw [HCn.out]; simp; omega) ?_; intro u4 w4 ap4
           have A1 := Lib.hid (A0.out.app ap4)
           have rr := Row.of_bytes A1.out.own (by rw [List.nil_append]; exact RC.out.all_byte)
           rw [List.nil_append] at rr
           obtain ⟨a4, c4, rfl⟩ := rr.shape n HCn.out
           have q4 := trip_stp QX.out A1.out.bel
           have RR := Lib.hid rr; have Q4 := Lib.hid q4; refine hKx _ _ ?_; clear ap4 rr
           have k0 := q4.free 0; have k1 := q4.free 1; have k2 := q4.free 2; have y0 := q4.cell0; have y1 := q4.cell1; have y2 := q4.cell2; have yl := q4.lt
           clear q4)
        | fail)
      have hwt : (Lit.int .i64 t).wf = true := by
        obtain ⟨i, hi, hti⟩ := (known_iff t).1 hkn
        match i, hi with
        | 0, _ => rw [← hti]; decide
        | 1, _ => rw [← hti]; decide
        | 2, _ => rw [← hti]; decide
        | 3, _ => rw [← hti]; decide
        | 4, _ => rw [← hti]; decide

      have hXs := HXs.out
      have hlB := Q1.out.lt
      obtain ⟨W5, hW5⟩ : ∃ V, w4.setCell ⟨w1.heap.size + 1, 1, none⟩ (.slice a4 n c4) = V := ⟨_, rfl⟩
      have hoff := RR.out.off_trip Q4.out
      have hrw : Row .u8 W5 (.slice a4 n c4) C := by rw [← hW5]; exact RR.out.aside (p := ⟨w1.heap.size + 1, 1, none⟩) hoff _
      have HI : Hid (ItP W5 (.slice a4 n c4) (.slice none 0 0) (.mk t C [])) := Lib.hid ⟨hwt, hrw, ItsV.nil _⟩
      have OW5 : Hid (Own (B + 1) none W5 (.slice a4 n c4) (.slice none 0 0) (.mk t C [])) := Lib.hid (Own.bytes hwt hrw (by
        rintro bb oo nn cc e0 h0
        cases e0
        have := (OwnB.blk A1.out.own bb rfl).1; omega))
      have QX5 : Hid (Trip W5 (w1.heap.size + 1) 25 (.int .i64 t) (.slice a4 n c4) (.slice none 0 0)) := Lib.hid (by rw [← hW5]; exact Q4.out.set1 _)
      have QB4 : Trip w4 B 25 (.int .i64 0) (.slice none 0 0) (.slice none 0 0) := trip_stp (trip_stp Q1.out HBX.out) A1.out.bel
      have QB5 : Hid (Trip W5 B 25 (.int .i64 0) (.slice none 0 0) (.slice none 0 0)) := Lib.hid (by rw [← hW5]; exact QB4.other (p := ⟨w1.heap.size + 1, 1, none⟩) (by show w1.heap.size + 1 ≠ B; omega) _)
      have BB5 : Hid (Below B w W5) := Lib.hid (by
        rw [← hW5]
        exact ((HB1.out.trans (HBX.out.mono (Nat.le_of_lt hlB))).trans (A1.out.bel.mono (by omega))).setCell (p := ⟨w1.heap.size + 1, 1, none⟩) (show B ≤ w1.heap.size + 1 by omega) _)
      have HW5 := Lib.hid hW5
      clear hW5 hrw QB4 hoff
      rw [HW5.out]

      have hfm : Dm.form (.mk t C []) = Dm.mayB t C := by
        rw [form_eq]
        show ((decide (t = 48) || true) && Dm.mayB t C && true) = _
        rw [Bool.or_true, Bool.true_and, Bool.and_true]
      have hC := Form_any (.mk t C []) W5 _ _ HI.out
      obtain ⟨M, hM⟩ : ∃ M, Dm.mayB t C = M := ⟨_, rfl⟩
      have hg4 := HG3.out
      rw [hfm, hM] at hC
      rw [hM] at hg4
      have HG4 := Lib.hid hg4
      clear hfm hM hg4
      refine hC.mono ?_; rintro e w6 ⟨rfl, hb6⟩
      have q6 := trip_stp QX5.out hb6
      have qB6 := trip_stp QB5.out hb6
      have bb6 := BB5.out.trans (hb6.mono (Nat.le_of_lt QB5.out.lt))
      have ow6 := OW5.out.kept (Keep.of_below hb6 (Nat.le_refl _))
      have y0 := q6.cell0; have y1 := q6.cell1; have y2 := q6.cell2
      have f0 := qB6.free 0; have f1 := qB6.free 1; have f2 := qB6.free 2; have x0 := qB6.cell0; have x1 := qB6.cell1; have x2 := qB6.cell2; have xl := qB6.lt
      have QB6 := Lib.hid qB6; have BB6 := Lib.hid bb6; have OW6 := Lib.hid ow6
      clear hC hb6 q6 qB6 bb6 ow6 QX5 QB5 BB5 OW5 HI
      cases M with
      | false =>
        have hr : R = .error 71 := by rw [HRR.out, HG4.out, if_neg (by decide)]
        have HE := Lib.hid hr
        clear hr
        go_wp2_with fail
        refine bodyPost_ret (read_ret rfl (trip3 QB6.out _ _ _)) rfl ?_
        exact ⟨by rw [HE.out]; rfl, bel3' BB6.out (Nat.le_refl _) _ _ _⟩
      | true =>
        have hr : R = .ok (.mk t C [], E) := by rw [HRR.out, HG4.out, if_pos rfl]; simp only [HEnd.out]
        have HE := Lib.hid hr
        clear hr
        go_wp2_with fail
        refine bodyPost_ret (read_ret rfl (trip3 QB6.out _ _ _)) rfl ?_
        rw [HE.out]
        refine ⟨⟨a4, c4, none, 0, ?_, ?_⟩, bel3' BB6.out (Nat.le_refl _) _ _ _⟩
        · rw [show (Dm.It.mk t C []).b.length = n from HCn.out]; rfl
        · rw [show (Dm.It.mk t C []).b.length = n from HCn.out]
          exact (OW6.out.kept ⟨by simp, fun g hg _ _ => ((Below.heap_setCell _ ⟨B, 2, none⟩ _ g (show g ≠ B by omega)).trans (Below.heap_setCell _ ⟨B, 1, none⟩ _ g (show g ≠ B by omega))).trans (Below.heap_setCell _ ⟨B, 0, none⟩ _ g (show g ≠ B by omega))⟩).mono (Nat.le_succ B)
    subst h48
    have hg3 := HG2.out
    rw [if_pos rfl] at hg3
    obtain ⟨T, hT⟩ : ∃ T, l.take E = T := ⟨_, rfl⟩
    obtain ⟨inn, hinn⟩ : ∃ x, (l.drop a).take n = x := ⟨_, rfl⟩
    have hTl : T.length = E := by rw [← hT, List.length_take, HN0.out]; omega
    have hia : inn = T.drop a := by rw [← hinn, ← hT, List.drop_take]; congr 1; have := HE0.out; omega
    rw [hinn] at hg3
    have hTb : ∀ y ∈ T, byte y := fun y hy => HBy.out y (by rw [← hT] at hy; exact List.mem_of_mem_take hy)
    have hEna : E - a = n := by have := HE0.out; omega
    have HG3 := Lib.hid hg3; have HTl := Lib.hid hTl; have HIA := Lib.hid hia; have HT := Lib.hid hT; have HTB := Lib.hid hTb; have HEna := Lib.hid hEna
    clear hg3 hT hinn hTl hia hTb hEna
    have hbX : Below (w1.heap.size + 1) (w1.alloc (.cells #[.int .i64 48, .int .i64 n, .int .i64 a, .int .i64 0] 85)) ((w1.alloc (.cells #[.int .i64 48, .int .i64 n, .int .i64 a, .int .i64 0] 85)).alloc (.cells #[.int .i64 48, .slice none 0 0, .slice none 0 0] 25)) := (Below.refl _ _).alloc (by simp) _
    have qX : Trip ((w1.alloc (.cells #[.int .i64 48, .int .i64 n, .int .i64 a, .int .i64 0] 85)).alloc (.cells #[.int .i64 48, .slice none 0 0, .slice none 0 0] 25)) (w1.heap.size + 1) 25 (.int .i64 48) (.slice none 0 0) (.slice none 0 0) := by
      have := Trip.new (w1.alloc (.cells #[.int .i64 48, .int .i64 n, .int .i64 a, .int .i64 0] 85)) 25 (.int .i64 48) (.slice none 0 0) (.slice none 0 0)
      rwa [World.size_alloc] at this
    have hs0 := World.ownsRow_nil ((w1.alloc (.cells #[.int .i64 48, .int .i64 n, .int .i64 a, .int .i64 0] 85)).alloc (.cells #[.int .i64 48, .slice none 0 0, .slice none 0 0] 25)) (w1.heap.size + 1 + 1) 25 3
    obtain ⟨WP, hWP⟩ : ∃ V, w1.alloc (.cells #[.int .i64 48, .int .i64 n, .int .i64 a, .int .i64 0] 85) = V := ⟨_, rfl⟩
    have hbP : Below w1.heap.size w1 WP := by rw [← hWP]; exact (Below.refl _ w1).alloc (Nat.le_refl _) _
    have hWPs : WP.heap.size = w1.heap.size + 1 := by rw [← hWP, World.size_alloc]
    have HBX := Lib.hid hbX; have QX := Lib.hid qX; have HS0 := Lib.hid hs0; have HBP := Lib.hid hbP; have HWPs := Lib.hid hWPs
    have HWP := Lib.hid hWP
    clear hbX qX hs0 hWP hbP hWPs
    go_wp2_with fail
    go_loopw [12, 13, 14, 15] (fun i _ _ _ wr => ∃ (k : Nat) (ys : List Dm.It) (lv : Value) (xs : List Value), i = .int .i64 k ∧ a ≤ k ∧ k ≤ E ∧ Trip wr (w1.heap.size + 1) 25 (.int .i64 48) (.slice none 0 0) lv ∧ wr.ownsRow (w1.heap.size + 1 + 1) 25 3 lv ys.length xs ∧ Cells (w1.heap.size + 1 + 1) lv.ownBlock wr xs ys ∧
      Dm.many (subGet d) inn.length inn = (Dm.many (subGet d) (T.drop k).length (T.drop k)).map (ys ++ ·) ∧ ys.length + (E - k) ≤ n ∧ Below (w1.heap.size + 1) WP wr) (fun i _ _ _ _ => E - (intOf i).toNat)
    case atStart => exact ⟨a, [], _, [], rfl, Nat.le_refl _, haE, QX.out, HS0.out, rfl, by rw [HIA.out]; simp, by rw [HEna.out]; simp, by rw [← HWP.out]; exact HBX.out⟩
    case round =>
      obtain ⟨k, ys, lv, xs, rfl, hak, hkE, hd, ho, hc, hmn, hle, hb⟩ := hrel
      have hsz := hb.size
      have qB : Trip wr B 25 (.int .i64 0) (.slice none 0 0) (.slice none 0 0) := (hb.block B (by have := Q1.out.lt; omega)).trans (trip_stp Q1.out HBP.out)
      have bB : Below B w wr := (HB1.out.trans (HBP.out.mono (Nat.le_of_lt Q1.out.lt))).trans (hb.mono (by have := Q1.out.lt; omega))
      have rT : Row .u8 wr (.slice (some ⟨b, off, none⟩) E c) T := by
        have h9 := Row.take (((R1.out.below HBP.out).below (hb.mono (by have := HWPs.out; omega)))) E (by rw [HN0.out]; exact hEn)
        rwa [HT.out] at h9
      obtain ⟨al, nl, cl, rfl⟩ := owns_slice ho
      have HO := Lib.hid ho; have HCe := Lib.hid hc; have HMn := Lib.hid hmn; have HLe := Lib.hid hle; have HD := Lib.hid hd; have HBw := Lib.hid hb; have QB := Lib.hid qB; have BB := Lib.hid bB; have RT := Lib.hid rT; have HSZ := Lib.hid hsz
      clear ho hc hmn hle hb qB bB rT hsz
      have k0 : (0 : Int) ≤ (k : Int) := by omega
      have z0 := hd.free 0; have z1 := hd.free 1; have z2 := hd.free 2; have y0 := hd.cell0; have y1 := hd.cell1; have y2 := hd.cell2; have yl := hd.lt
      have f0 := QB.out.free 0; have f1 := QB.out.free 1; have f2 := QB.out.free 2; have x0 := QB.out.cell0; have x1 := QB.out.cell1; have x2 := QB.out.cell2; have xl := QB.out.lt
      have hBX : B < w1.heap.size + 1 := by have := Q1.out.lt; omega
      have nBX : ¬ B = w1.heap.size + 1 := by omega
      have nXB : ¬ w1.heap.size + 1 = B := by omega
      clear hd
      by_cases hkl : k < E
      case neg =>
        obtain rfl : k = E := by omega
        have hke : ¬ (k : Int) < (k : Int) := by omega
        have hnl : nl = ys.length := by
          rcases HO.out.2 with ⟨h1, h2⟩ | ⟨g', cap', cur, h1, _⟩
          · cases h1; omega
          · cases h1; rfl
        subst hnl
        have hdn : T.drop k = [] := List.drop_eq_nil_of_le (by rw [HTl.out]; exact Nat.le_refl _)
        have hr : R = .ok (.mk 48 [] ys, k) := by
          rw [HRR.out, HG3.out, HMn.out, hdn, many_end]
          show Except.ok (Dm.It.mk 48 [] (ys ++ []), n0 - (l.drop k).length) = _
          rw [List.append_nil, HEnd.out]
        have HE := Lib.hid hr
        clear hr hdn
        go_wp2_with fail
        refine bodyPost_ret (read_ret rfl (trip3 QB.out _ _ _)) rfl ?_
        rw [HE.out]
        refine ⟨⟨none, 0, al, cl, rfl, ?_⟩, bel3' BB.out (Nat.le_refl _) _ _ _⟩
        exact ((Own.seq (by decide) HO.out HCe.out).kept ⟨by simp, fun g hg _ _ => ((Below.heap_setCell _ ⟨B, 2, none⟩ _ g (show g ≠ B by omega)).trans (Below.heap_setCell _ ⟨B, 1, none⟩ _ g (show g ≠ B by omega))).trans (Below.heap_setCell _ ⟨B, 0, none⟩ _ g (show g ≠ B by omega))⟩).mono (by omega)
      have hk1 : (k : Int) < (E : Int) := by omega
      have hne : T.drop k ≠ [] := by
        intro h9
        have := congrArg List.length h9
        rw [List.length_drop, HTl.out] at this
        simp at this; omega
      have stop : ∀ e, subGet d (T.drop k) = .error e → R = .error 71 := fun e h9 => by
        have hm0 : Dm.many (subGet d) (T.drop k).length (T.drop k) = none := many_stop hne h9
        rw [HRR.out, HG3.out, HMn.out, hm0]; rfl
      have STOP := Lib.hid stop; have HNE := Lib.hid hne
      clear stop hne
      by_cases hd2 : d ≤ 1
      · obtain rfl : d = 1 := by omega
        have hr : R = .error 71 := by
          refine STOP.out 71 ?_
          cases hT9 : T.drop k with
          | nil => exact absurd hT9 HNE.out
          | cons t b1 =>
            show Dm.getW (fun _ => .error 71) false (t :: b1) = .error 71
            rw [Dm.getW_cons, Bool.and_false]; rfl
        have HE := Lib.hid hr
        clear hr
        go_wp2_with fail
        refine bodyPost_ret (read_ret rfl (trip3 QB.out _ _ _)) rfl ?_
        exact ⟨by rw [HE.out]; rfl, bel3' BB.out (Nat.le_refl _) _ _ _⟩
      obtain ⟨d', hd'⟩ : ∃ d', d' + 1 = d := ⟨d - 1, by omega⟩
      have wd : IntKind.i64.wrap ((d : Int) - 1) = (d' : Int) := (IntWalk.i64_in _ (by omega)).trans (by omega)
      have hd3 : ¬ (d : Int) ≤ 1 := by omega
      have hsub : subGet d = Dm.get d' := by rw [← hd']; rfl
      have hC := ih d' hd' (by omega) _ T k wr RT.out (by rw [HTl.out]; omega) (by rw [HTl.out]; omega)
      have g1 : (0 : Int) ≤ (E : Int) := by omega
      have g2 : (E : Int) ≤ (c : Int) := by omega
      have g3 : ¬ c = 0 := by omega
      have HSub := Lib.hid hsub
      clear hsub
      go_wp2_with fail
      refine hC.mono ?_; rintro e w2 ⟨hG, hb2⟩
      have qX2 := trip_stp (show Trip wr (w1.heap.size + 1) 25 (.int .i64 48) (.slice none 0 0) (.slice al nl cl) from HD.out) hb2
      have qB2 := trip_stp QB.out hb2
      have bB2 := BB.out.trans (hb2.mono (Nat.le_of_lt xl))
      have QX2 := Lib.hid qX2; have QB2 := Lib.hid qB2; have BB2 := Lib.hid bB2; have HW2 := Lib.hid hb2
      clear hC hb2 bB2 f0 f1 f2 x0 x1 x2 xl z0 z1 z2 y0 y1 y2 yl
      have z0 := qX2.free 0; have z1 := qX2.free 1; have z2 := qX2.free 2; have y0 := qX2.cell0; have y1 := qX2.cell1; have y2 := qX2.cell2; have yl := qX2.lt
      have f0 := qB2.free 0; have f1 := qB2.free 1; have f2 := qB2.free 2; have x0 := qB2.cell0; have x1 := qB2.cell1; have x2 := qB2.cell2; have xl := qB2.lt
      clear qX2 qB2
      unfold readAt at hG
      match hX : Dm.get d' (T.drop k), hG with
      | .error cc, hG =>
        have hG' : e = .returned (.tuple #[noV, .int .i64 0, .int .i64 cc]) := hG
        subst hG'
        have hr : R = .error 71 := STOP.out cc (by rw [HSub.out]; exact hX)
        have HE := Lib.hid hr
        have hcc := get_fail hX
        clear hr hX hG
        have hz := (trip3 QB2.out (.int .i64 0) (.slice none 0 0) (.slice none 0 0)).alloc (.cells #[.int .i64 0, .slice none 0 0, .slice none 0 0] 25)
        have hbz := (bel3' BB2.out (Nat.le_refl B) (.int .i64 0) (.slice none 0 0) (.slice none 0 0)).alloc (by have := BB2.out.size; have := QB2.out.lt; simp; omega) (.cells #[.int .i64 0, .slice none 0 0, .slice none 0 0] 25)
        have HZ := Lib.hid hz; have HBZ := Lib.hid hbz
        clear hz hbz
        rcases hcc with rfl | rfl
        all_goals
          go_wp2_with fail
          refine bodyPost_ret (read_ret rfl HZ.out) rfl ?_
          exact ⟨by rw [HE.out]; rfl, HBZ.out⟩
      | .ok (y, r'), hG =>
        obtain ⟨ab, cb, al2, cl2, rfl, hown⟩ := hG
        rw [HTl.out]
        have honly := Dm.get_only d' (T.drop k) y r' (fun z hz => by have := HTB.out z (List.mem_of_mem_drop hz); unfold byte at this; exact ⟨this.1, by omega⟩) hX
        have hln := congrArg List.length honly.2.1
        rw [List.length_append, Dm.bytes_len, List.length_drop, HTl.out] at hln
        have hly : 2 ≤ Dm.len y := by have h9 := wt_len' y; rw [Dm.wt_eq] at h9; omega
        obtain ⟨k2, hk2⟩ : ∃ q, E - r'.length = q := ⟨_, rfl⟩
        have hk2e : k2 = k + Dm.len y := by omega
        have hrd : T.drop k2 = r' := by rw [hk2e, ← List.drop_drop, ← honly.2.1, List.drop_left' (Dm.bytes_len y)]
        have hX' := hX
        rw [← HSub.out] at hX'
        have hms := many_step (fun b y r h => get_less d' b y r (by rw [← HSub.out]; exact h)) HNE.out hX'
        have hmn2 : Dm.many (subGet d) inn.length inn = (Dm.many (subGet d) (T.drop k2).length (T.drop k2)).map ((ys ++ [y]) ++ ·) := by
          rw [HMn.out, hms, Option.map_map, hrd]; congr 1; funext q; simp
        have hle2 : (ys ++ [y]).length + (E - k2) ≤ n := by have h1 := HLe.out; rw [List.length_append, List.length_singleton]; omega
        have hkk : k < k2 ∧ k2 ≤ E := by omega
        have hy63 : ys.length + 1 ≤ 65536 := by rw [List.length_append, List.length_singleton] at hle2; omega
        rw [hk2]
        have HMn2 := Lib.hid hmn2; have HLe2 := Lib.hid hle2; have HY := Lib.hid hown; have HY63 := Lib.hid hy63
        clear hX hX' hms hmn2 hle2 hown hy63 honly hln hly hk2e hrd hk2
        obtain ⟨j0, gi, gz0, gz1, gz2⟩ := info_parts info_item
        obtain ⟨nb, hnb⟩ : ∃ nb, y.b.length = nb := ⟨_, rfl⟩
        obtain ⟨nl2, hnl2⟩ : ∃ nl2, y.l.length = nl2 := ⟨_, rfl⟩
        rw [hnb, hnl2]
        have HY2 := HY.out
        rw [hnb, hnl2] at HY2
        have hk3 : Keep wr.heap.size none w2 (w2.alloc (.cells #[.int .i64 y.tag, .slice ab nb cb, .slice al2 nl2 cl2] 25)) := Keep.of_below ((Below.refl w2.heap.size w2).alloc (Nat.le_refl _) _) (Nat.le_refl _)
        obtain ⟨W3, hW3⟩ : ∃ W3, w2.alloc (.cells #[.int .i64 y.tag, .slice ab nb cb, .slice al2 nl2 cl2] 25) = W3 := ⟨_, rfl⟩
        have hy3 := HY2.kept hk3
        rw [hW3] at hy3
        have hb23 : Below w2.heap.size w2 W3 := by rw [← hW3]; exact (Below.refl _ w2).alloc (Nat.le_refl _) _
        have hbW3 : Below wr.heap.size wr W3 := HW2.out.trans (hb23.mono HW2.out.size)
        have ho3 := owns_keep HO.out hbW3
        have qX3 : Trip W3 (w1.heap.size + 1) 25 (.int .i64 48) (.slice none 0 0) (.slice al nl cl) := trip_stp QX2.out hb23
        have hs3 : W3.heap.size = w2.heap.size + 1 := by rw [← hW3, World.size_alloc]
        have HO3 := Lib.hid ho3; have HBW3 := Lib.hid hbW3; have HY4 := Lib.hid hy3; have HQX3 := Lib.hid qX3; have HW3 := Lib.hid hW3; have HS3 := Lib.hid hs3
        clear ho3 hbW3 hk3 hy3 qX3 hW3 hs3 hb23 HY2 HY hnb hnl2
        go_wp2_with (first
          | (at_builtin
             rw [HW3.out]
             refine wpList_append_own_at _ rfl (.tmp 91) (.tmp 93) 23 rfl (w1.heap.size + 1 + 1) 25 j0 (.agg #[.int .i64 0, .slice none 0 0, .slice none 0 0]) 3 56 Tryd.underlying23 gi gz0 gz1 gz2 rfl (by decide) (.slice al nl cl) ys.length xs rfl (HO3.out.alloc _) _ 1 1 [.int .i64 y.tag, .slice ab nb cb, .slice al2 nl2 cl2] rfl rfl (by have h9 := cells_new3 W3 (.int .i64 y.tag) (.slice ab nb cb) (.slice al2 nl2 cl2) 25; rw [HS3.out] at h9; exact h9) (by intro u hu; simp at hu; rcases hu with rfl | rfl | rfl <;> rfl) (by have := HY63.out; unfold maxLen; omega) (by have := HY63.out; omega) (by have := HBW3.out.size; have := HSZ.out; have := HWPs.out; have := HD.out.lt; simp; omega) ?_
             intro v' w5 own5 hgrow _ hat
             obtain ⟨a5, n5, c5, rfl⟩ := owns_slice own5
             have qX5 : Trip w5 (w1.heap.size + 1) 25 (.int .i64 48) (.slice none 0 0) (.slice al nl cl) := (hgrow.block (w1.heap.size + 1) (by have := HQX3.out.lt; simp; omega) (fun e => by have := (own_at HO.out e.symm).1; omega)).trans (HQX3.out.alloc _)
             have f5 := qX5.free 2
             have x5 := qX5.cell2)
          | fail)
        obtain ⟨s1, s2, s3, s4⟩ := seq_step' HD.out HO.out HCe.out HBw.out (HBW3.out.alloc HBW3.out.size _) (HY4.out.kept (Keep.of_below ((Below.refl W3.heap.size W3).alloc (Nat.le_refl _) _) (Nat.le_refl _))) hgrow own5 hat
        refine ⟨⟨k2, ys ++ [y], .slice a5 n5 c5, xs ++ [.int .i64 y.tag, .slice ab nb cb, .slice al2 nl2 cl2], rfl, by omega, hkk.2, s1, s2, s3, HMn2.out, HLe2.out, s4⟩, ?_⟩
        show E - (intOf (Value.int .i64 k2)).toNat < E - (intOf (Value.int .i64 k)).toNat
        simp [intOf]; omega
end Go.Proofs.YtpmiihmhfagfoaaDoor
