/-
  Walks over der.Int: the bytes of a number, as few as hold it.
-/
import Derived.Test.YtpmiihmhfagfoaaDoorDk
namespace Go.Proofs.YtpmiihmhfagfoaaDoor
open Go.RowKit

theorem results_cell1 {P : Program} {fn : Func} {p : Tmp} {ty : TypeId} (h : fn.results = #[.cell p ty]) (tmps : Array Value) (w : World) (g : Nat) (t' : TypeId) (cs : Array Value) (fr : Nat × Nat) (d : TypeDesc)
    (hp : tmps.getD p undef = .pointer (some ⟨g, 0, none⟩)) (hg : w.heap[g]? = some (.cells cs t' fr))
    (hu : P.underlying ty = some d) (hd : (match d with | .struct _ | .array _ _ => true | _ => false) = true) (hi : (P.info? ty).map (·.size) = some cs.size) :
    (results fn tmps).run P w = .ok (.agg cs) w := by
  have hp' : tmps[p]?.getD undef = .pointer (some ⟨g, 0, none⟩) := by simpa using hp
  simp [results, h, hp', asAddr, run_loadVar_row w g t' ty cs fr d hg hu hd hi]
theorem item_ret1 {tmps : Array Value} {W : World} {g : Nat} {fn : Func} {p : Tmp} (hr : fn.results = #[.cell p 25]) (hp : tmps.getD p undef = .pointer (some ⟨g, 0, none⟩)) {x y z : Value} (hd : Trip W g 25 x y z) :
    (results fn tmps).run Tryd.prog W = .ok (.agg #[x, y, z]) W :=
  results_cell1 hr _ _ g _ _ _ _ hp hd Tryd.underlying25 rfl (by kernel_rfl)
theorem cells_set {W : World} {B : Nat} {cs : Array Value} {t : TypeId} (h : W.heap[B]? = some (.cells cs t (0, 0))) (i : Nat) (v : Value) : (W.setCell ⟨B, i, none⟩ v).heap[B]? = some (.cells (cs.setIfInBounds i v) t (0, 0)) := by
  obtain ⟨hlt, hk⟩ := Array.getElem?_eq_some_iff.1 h
  show (W.heap.modify B _)[B]? = _
  rw [Array.getElem?_eq_getElem (by rw [Array.size_modify]; exact hlt), Array.getElem_modify_self, hk]
  rfl

theorem trip3 {W : World} {B : Nat} {t : TypeId} {x y z : Value} (h : Trip W B t x y z) (a b c : Value) : Trip (((W.setCell ⟨B, 0, none⟩ a).setCell ⟨B, 1, none⟩ b).setCell ⟨B, 2, none⟩ c) B t a b c := ((h.set0 a).set1 b).set2 c
theorem bel3' {n : Nat} {w W : World} (h : Below n w W) {B : Nat} (hB : n ≤ B) (a b c : Value) : Below n w (((W.setCell ⟨B, 0, none⟩ a).setCell ⟨B, 1, none⟩ b).setCell ⟨B, 2, none⟩ c) := ((h.setCell hB a).setCell hB b).setCell hB c
/-- The eight bytes of a number. -/
def be8 (n : Int) : List Int := (List.range 8).map fun i => n / 2 ^ (56 - 8 * i) % 256
/-- As few as hold it. -/
def trimI : List Int → List Int
  | x :: y :: r => if Dm.least (x :: y :: r) then x :: y :: r else trimI (y :: r)
  | l => l
def intB (n : Int) : List Int := trimI (be8 n)
theorem trimI_stop {l : List Int} (h : l.length ≤ 1 ∨ Dm.least l = true) : trimI l = l := by
  match l, h with
  | [], _ => rfl
  | [_], _ => rfl
  | x :: y :: r, h =>
    rcases h with h | h
    · simp at h
    · rw [trimI, if_pos h]
theorem trimI_step {l : List Int} (h : 1 < l.length) (hl : Dm.least l = false) : trimI l = trimI (l.drop 1) := by
  match l, h with
  | x :: y :: r, h => rw [trimI, hl]; rfl
/-- The array under way. -/
def Eight (W : World) (C : Nat) (n : Int) (k : Nat) : Prop := ∃ cs t, W.heap[C]? = some (.cells cs t (0, 0)) ∧ cs.size = 8 ∧ ∀ j, j < 8 → cs[j]? = some (.int .u8 (if j < k then (be8 n)[j]?.getD 0 else 0))
theorem Eight.free {W : World} {C : Nat} {n : Int} {k : Nat} (h : Eight W C n k) (j : Nat) : W.frozen? ⟨C, j, none⟩ = false := by
  obtain ⟨cs, t, h, -⟩ := h; simp [World.frozen?, h]
theorem Eight.cell {W : World} {C : Nat} {n : Int} {k : Nat} (h : Eight W C n k) (j : Nat) (hj : j < 8) : W.cell? ⟨C, j, none⟩ = some (.int .u8 (if j < k then (be8 n)[j]?.getD 0 else 0)) := by
  obtain ⟨cs, t, h, _, h2⟩ := h
  have := h2 j hj
  simp only [World.cell?, h]; simpa using this
theorem Eight.lt {W : World} {C : Nat} {n : Int} {k : Nat} (h : Eight W C n k) : C < W.heap.size := by obtain ⟨cs, t, h, -⟩ := h; exact (Array.getElem?_eq_some_iff.1 h).1
theorem be8_at (n : Int) (k : Nat) (hk : k < 8) : (be8 n)[k]?.getD 0 = n / 2 ^ (56 - 8 * k) % 256 := by
  unfold be8; simp [hk]
theorem Eight.set {W : World} {C : Nat} {n : Int} {k : Nat} (h : Eight W C n k) (hk : k < 8) : Eight (W.setCell ⟨C, k, none⟩ (.int .u8 (n / 2 ^ (56 - 8 * k) % 256))) C n (k + 1) := by
  obtain ⟨cs, t, h, h1, h2⟩ := h
  refine ⟨_, t, cells_set h k _, by simp [h1], fun j hj => ?_⟩
  by_cases e : j = k
  · subst e
    rw [Array.getElem?_setIfInBounds_self_of_lt (by omega), if_pos (by omega), be8_at n j hk]
  · rw [Array.getElem?_setIfInBounds_ne (fun x => e x.symm), h2 j hj]
    by_cases g : j < k
    · rw [if_pos g, if_pos (by omega)]
    · rw [if_neg g, if_neg (by omega)]
theorem Eight.row {W : World} {C : Nat} {n : Int} (h : Eight W C n 8) : Row .u8 W (.slice (some ⟨C, 0, none⟩) 8 8) (be8 n) := by
  have hl : (be8 n).length = 8 := rfl
  refine ⟨_, _, rfl, by rw [hl]; exact Nat.le_refl _, by unfold maxLen; omega, (fun e => by cases e), fun x hx => byte_wf_of ?_, fun _ => ⟨C, 0, rfl, h.lt, fun i hi => ?_⟩⟩
  · simp only [be8, List.mem_map] at hx
    obtain ⟨i, _, rfl⟩ := hx
    unfold byte; omega
  · have := h.cell i (by omega)
    rw [if_pos (by omega)] at this
    simpa using this

set_option maxRecDepth 100000 in
set_option maxHeartbeats 2000000 in
theorem Int_any (n : Int) (w : World) :
    Calls Tryd.prog 20 #[.int .i64 n] w fun e w' => (∃ a c, e = .returned (.agg #[.int .i64 2, .slice a (intB n).length c, .slice none 0 0]) ∧
      Own w.heap.size none w' (.slice a (intB n).length c) (.slice none 0 0) (.mk 2 (intB n) [])) ∧ Below w.heap.size w w' := by
  obtain ⟨B, hB⟩ : ∃ B, w.heap.size = B := ⟨_, rfl⟩
  rw [hB]
  go_enter Tryd.func20, Tryd.ntmps20
  go_wp2_with fail
  go_loopw [4, 6] (fun _ i wr => ∃ k : Nat, i = .int .i64 k ∧ k ≤ 8 ∧ Trip wr B 25 (.int .i64 0) (.slice none 0 0) (.slice none 0 0) ∧ Eight wr (B + 1) n k ∧ Below B w wr) (fun _ i _ => 8 - (intOf i).toNat)
  case atStart =>
    refine ⟨0, rfl, Nat.zero_le _, ?_, ⟨#[.int .u8 0, .int .u8 0, .int .u8 0, .int .u8 0, .int .u8 0, .int .u8 0, .int .u8 0, .int .u8 0], 63, ?_, rfl, fun j hj => ?_⟩, ?_⟩
    · rw [← hB]; exact (Trip.new w _ _ _ _).alloc _
    · rw [← hB]
      have := World.alloc_heap_new (w.alloc (.cells #[.int .i64 0, .slice none 0 0, .slice none 0 0] 25)) (.cells #[.int .u8 0, .int .u8 0, .int .u8 0, .int .u8 0, .int .u8 0, .int .u8 0, .int .u8 0, .int .u8 0] 63)
      rw [World.size_alloc] at this
      exact this
    · rw [if_neg (Nat.not_lt_zero j)]
      match j, hj with
      | 0, _ => rfl
      | 1, _ => rfl
      | 2, _ => rfl
      | 3, _ => rfl
      | 4, _ => rfl
      | 5, _ => rfl
      | 6, _ => rfl
      | 7, _ => rfl
    · rw [← hB]; exact ((Below.refl _ w).alloc (Nat.le_refl _) _).alloc (by simp) _
  case round =>
    obtain ⟨k, rfl, hk, hd, h8, hb⟩ := hrel
    by_cases hk8 : k < 8
    · have k0 : (0 : Int) ≤ (k : Int) := by omega
      have k1 : (k : Int) < 8 := by omega
      have k2 : (k : Int).toNat = k := by omega
      have c0 := h8.cell k hk8; have f0 := h8.free k
      have e1 : IntKind.i64.wrap (8 * (k : Int)) = 8 * (k : Int) := IntWalk.i64_in _ (by omega)
      have e2 : IntKind.i64.wrap (56 - 8 * (k : Int)) = 56 - 8 * (k : Int) := IntWalk.i64_in _ (by omega)
      have e3 : IntKind.i64.wrap ((k : Int) + 1) = (k : Int) + 1 := IntWalk.i64_in _ (by omega)
      have hd2 := hd.other (p := ⟨B + 1, k, none⟩) (by simp) (.int .u8 (n / 2 ^ (56 - 8 * k) % 256))
      have h82 := h8.set hk8
      have hb2 := hb.setCell (p := ⟨B + 1, k, none⟩) (show B ≤ B + 1 by omega) (.int .u8 (n / 2 ^ (56 - 8 * k) % 256))
      have HD2 := Lib.hid hd2; have H82 := Lib.hid h82; have HB2 := Lib.hid hb2
      clear hd2 h82 hb2 hd h8 hb
      go_wp2_with fail
      go_roundw
      case rel => exact ⟨k + 1, by go_num, by omega, HD2.out, H82.out, HB2.out⟩
      case measure => simp [intOf]; omega
    · have hk9 : k = 8 := by omega
      have hk1 : ¬ (k : Int) < 8 := by omega
      have hrow := (show Eight wr (B + 1) n 8 from hk9 ▸ h8).row
      have HR := Lib.hid hrow; have HD := Lib.hid hd; have HBe := Lib.hid hb
      clear hd h8 hb hrow hk9
      go_wp2_with fail
      go_loopw [5] (fun s wr => ∃ (l : List Int) (a : Option Addr) (c : Nat), s = .slice a l.length c ∧ Row .u8 wr (.slice a l.length c) l ∧ trimI l = intB n ∧ 1 ≤ l.length ∧ l.length ≤ 8 ∧ Trip wr B 25 (.int .i64 0) (.slice none 0 0) (.slice none 0 0) ∧ Below B w wr) (fun s _ => lenOf s)
      case atStart => exact ⟨be8 n, _, _, rfl, HR.out, rfl, show 1 ≤ 8 by decide, Nat.le_refl 8, HD.out, HBe.out⟩
      case round =>
        obtain ⟨l, a, c, rfl, hr, ht, hl1, hl8, hd, hb⟩ := hrel
        obtain ⟨b, off, rfl, hbl, -⟩ := hr.cellAt 0 (by omega)
        obtain ⟨L, hL⟩ : ∃ L, l.length = L := ⟨_, rfl⟩
        rw [hL] at hr hl1 hl8 ⊢
        have hLc : L ≤ c := by obtain ⟨_, _, e', hc, _⟩ := hr; cases e'; omega
        have HR2 := Lib.hid hr; have HT := Lib.hid ht; have HD2 := Lib.hid hd; have HB2 := Lib.hid hb; have HL := Lib.hid hL
        clear hr ht hd hb hL hbl
        have hCl := Clone8_any _ l _ HR2.out (by rw [HL.out]; omega)
        by_cases h1 : 1 < L
        · have h1' : (1 : Int) < (L : Int) := by omega
          have hC := least_any _ l _ HR2.out (by rw [HL.out]; omega)
          obtain ⟨M, hM⟩ : ∃ M, Dm.least l = M := ⟨_, rfl⟩
          rw [hM] at hC
          have HM := Lib.hid hM
          clear hM
          cases M with
          | false =>
            clear hCl
            have h1c : 1 < c := by omega
            have rc := Row.cut HR2.out 1 (by rw [HL.out]; omega) h1c
            rw [Option.map_some, addr_add] at rc
            have ht2 : trimI (l.drop 1) = intB n := by rw [← trimI_step (by rw [HL.out]; exact h1) HM.out]; exact HT.out
            have hl2 : (l.drop 1).length = L - 1 := by rw [List.length_drop, HL.out]
            have RC := Lib.hid rc; have HT2 := Lib.hid ht2; have HL2 := Lib.hid hl2
            clear rc ht2 hl2
            go_wp2_with fail
            refine hC.mono ?_; rintro e w' ⟨rfl, rfl⟩
            clear hC
            go_wp2_with fail
            go_roundw
            case rel => exact ⟨l.drop 1, _, _, by rw [HL2.out], by rw [HL2.out]; exact RC.out, HT2.out, by rw [HL2.out]; omega, by rw [HL2.out]; omega, HD2.out, HB2.out⟩
            case measure => simp [lenOf]; omega
          | true =>
            go_wp2_with fail
            refine hC.mono ?_; rintro e w' ⟨rfl, rfl⟩
            clear hC
            go_wp2_with fail
            refine hCl.mono ?_; rintro e w4 ⟨r, rfl, own, hb4⟩
            have q4 := trip_stp HD2.out hb4
            have hB4 := HB2.out.trans (hb4.mono (by have := HD2.out.lt; omega))
            have rr := Row.of_bytes own (fun z hz => HR2.out.all_byte z hz)
            obtain ⟨ar, cr, rfl⟩ := rr.shape L HL.out
            have hlt : B < wr.heap.size := HD2.out.lt
            have HOw := Lib.hid own; have HRr := Lib.hid rr; have Q4 := Lib.hid q4; have HB4 := Lib.hid hB4
            have hoff := rr.off_trip q4
            have HOff := Lib.hid hoff
            clear hCl own rr hB4 hb4 hoff
            have f0 := q4.free 0; have f1 := q4.free 1; have f2 := q4.free 2; have x0 := q4.cell0; have x1 := q4.cell1; have x2 := q4.cell2; have xl := q4.lt
            clear q4
            go_wp2_with fail
            refine bodyPost_ret (item_ret1 rfl rfl (trip3 Q4.out _ _ _)) rfl ?_
            obtain rfl : l = intB n := by rw [← HT.out]; exact (trimI_stop (.inr HM.out)).symm
            refine ⟨⟨ar, cr, by rw [HL.out], Own.bytes (by decide) ?_ ?_⟩, bel3' HB4.out (Nat.le_refl _) _ _ _⟩
            · show Row .u8 _ (.slice ar (intB n).length cr) (intB n)
              rw [HL.out]; exact HRr.out.aside3 HOff.out _ _ _
            · rintro bb oo nn cc e0 h0
              cases e0
              have := (OwnB.blk HOw.out bb rfl).1; omega
        · have h1' : ¬ (1 : Int) < (L : Int) := by omega
          go_wp2_with fail
          refine hCl.mono ?_; rintro e w4 ⟨r, rfl, own, hb4⟩
          have q4 := trip_stp HD2.out hb4
          have hB4 := HB2.out.trans (hb4.mono (by have := HD2.out.lt; omega))
          have rr := Row.of_bytes own (fun z hz => HR2.out.all_byte z hz)
          obtain ⟨ar, cr, rfl⟩ := rr.shape L HL.out
          have hlt : B < wr.heap.size := HD2.out.lt
          have HOw := Lib.hid own; have HRr := Lib.hid rr; have Q4 := Lib.hid q4; have HB4 := Lib.hid hB4
          have hoff := rr.off_trip q4
          have HOff := Lib.hid hoff
          clear hCl own rr hB4 hb4 hoff
          have f0 := q4.free 0; have f1 := q4.free 1; have f2 := q4.free 2; have x0 := q4.cell0; have x1 := q4.cell1; have x2 := q4.cell2; have xl := q4.lt
          clear q4
          go_wp2_with fail
          refine bodyPost_ret (item_ret1 rfl rfl (trip3 Q4.out _ _ _)) rfl ?_
          obtain rfl : l = intB n := by rw [← HT.out]; exact (trimI_stop (.inl (by rw [HL.out]; omega))).symm
          refine ⟨⟨ar, cr, by rw [HL.out], Own.bytes (by decide) ?_ ?_⟩, bel3' HB4.out (Nat.le_refl _) _ _ _⟩
          · show Row .u8 _ (.slice ar (intB n).length cr) (intB n)
            rw [HL.out]; exact HRr.out.aside3 HOff.out _ _ _
          · rintro bb oo nn cc e0 h0
            cases e0
            have := (OwnB.blk HOw.out bb rfl).1; omega
end Go.Proofs.YtpmiihmhfagfoaaDoor
