/-
  The texts Eb Ld Le Lf Eg Lz Ly in one. (Merged by wip/lay10m.py.)
-/
import Derived.Test.YtfdchdnkblmijaaGreatDoorDk
import Derived.Test.YtfdchdnkblmijaaGreatDoorDf
import Derived.Test.YtfdchdnkblmijaaGreatDoorDg

section
namespace Go.Proofs.YtfdchdnkblmijaaGreatDoor
open Go.RowKit

theorem results_cell1 {P : Program} {fn : Func} {p : Tmp} {ty : TypeId} (h : fn.results = #[.cell p ty]) (tmps : Array Value) (w : World) (g : Nat) (t' : TypeId) (cs : Array Value) (fr : Nat × Nat) (d : TypeDesc)
    (hp : tmps.getD p undef = .pointer (some ⟨g, 0, none⟩)) (hg : w.heap[g]? = some (.cells cs t' fr))
    (hu : P.underlying ty = some d) (hd : (match d with | .struct _ | .array _ _ => true | _ => false) = true) (hi : (P.info? ty).map (·.size) = some cs.size) :
    (results fn tmps).run P w = .ok (.agg cs) w := by
  have hp' : tmps[p]?.getD undef = .pointer (some ⟨g, 0, none⟩) := by simpa using hp
  simp [results, h, hp', asAddr, run_loadVar_row w g t' ty cs fr d hg hu hd hi]
theorem item_ret1 {tmps : Array Value} {W : World} {g : Nat} {fn : Func} {p : Tmp} (hr : fn.results = #[.cell p 45]) (hp : tmps.getD p undef = .pointer (some ⟨g, 0, none⟩)) {x y z : Value} (hd : Trip W g 45 x y z) :
    (results fn tmps).run Tryz.prog W = .ok (.agg #[x, y, z]) W :=
  results_cell1 hr _ _ g _ _ _ _ hp hd Tryz.underlying45 rfl (by kernel_rfl)
theorem cells_set {W : World} {B : Nat} {cs : Array Value} {t : TypeId} (h : W.heap[B]? = some (.cells cs t (0, 0))) (i : Nat) (v : Value) : (W.setCell ⟨B, i, none⟩ v).heap[B]? = some (.cells (cs.setIfInBounds i v) t (0, 0)) := by
  obtain ⟨hlt, hk⟩ := Array.getElem?_eq_some_iff.1 h
  show (W.heap.modify B _)[B]? = _
  rw [Array.getElem?_eq_getElem (by rw [Array.size_modify]; exact hlt), Array.getElem_modify_self, hk]
  rfl

theorem trip3 {W : World} {B : Nat} {t : TypeId} {x y z : Value} (h : Trip W B t x y z) (a b c : Value) : Trip (((W.setCell ⟨B, 0, none⟩ a).setCell ⟨B, 1, none⟩ b).setCell ⟨B, 2, none⟩ c) B t a b c := ((h.set0 a).set1 b).set2 c
theorem bel3' {n : Nat} {w W : World} (h : Below n w W) {B : Nat} (hB : n ≤ B) (a b c : Value) : Below n w (((W.setCell ⟨B, 0, none⟩ a).setCell ⟨B, 1, none⟩ b).setCell ⟨B, 2, none⟩ c) := ((h.setCell hB a).setCell hB b).setCell hB c
/-- The eight bytes of a number. -/
def be8 (n : Int) : List Int := (List.range 8).map fun i => n / 2 ^ (56 - 8 * i) % 256
/-- As few as hold it. -/
def trimI : List Int → List Int
  | x :: y :: r => if Dm.least (x :: y :: r) then x :: y :: r else trimI (y :: r)
  | l => l
def intB (n : Int) : List Int := trimI (be8 n)
theorem trimI_stop {l : List Int} (h : l.length ≤ 1 ∨ Dm.least l = true) : trimI l = l := by
  match l, h with
  | [], _ => rfl
  | [_], _ => rfl
  | x :: y :: r, h =>
    rcases h with h | h
    · simp at h
    · rw [trimI, if_pos h]
theorem trimI_step {l : List Int} (h : 1 < l.length) (hl : Dm.least l = false) : trimI l = trimI (l.drop 1) := by
  match l, h with
  | x :: y :: r, h => rw [trimI, hl]; rfl
/-- The array under way. -/
def Eight (W : World) (C : Nat) (n : Int) (k : Nat) : Prop := ∃ cs t, W.heap[C]? = some (.cells cs t (0, 0)) ∧ cs.size = 8 ∧ ∀ j, j < 8 → cs[j]? = some (.int .u8 (if j < k then (be8 n)[j]?.getD 0 else 0))
theorem Eight.free {W : World} {C : Nat} {n : Int} {k : Nat} (h : Eight W C n k) (j : Nat) : W.frozen? ⟨C, j, none⟩ = false := by
  obtain ⟨cs, t, h, -⟩ := h; simp [World.frozen?, h]
theorem Eight.cell {W : World} {C : Nat} {n : Int} {k : Nat} (h : Eight W C n k) (j : Nat) (hj : j < 8) : W.cell? ⟨C, j, none⟩ = some (.int .u8 (if j < k then (be8 n)[j]?.getD 0 else 0)) := by
  obtain ⟨cs, t, h, _, h2⟩ := h
  have := h2 j hj
  simp only [World.cell?, h]; simpa using this
theorem Eight.lt {W : World} {C : Nat} {n : Int} {k : Nat} (h : Eight W C n k) : C < W.heap.size := by obtain ⟨cs, t, h, -⟩ := h; exact (Array.getElem?_eq_some_iff.1 h).1
theorem be8_at (n : Int) (k : Nat) (hk : k < 8) : (be8 n)[k]?.getD 0 = n / 2 ^ (56 - 8 * k) % 256 := by
  unfold be8; simp [hk]
theorem Eight.set {W : World} {C : Nat} {n : Int} {k : Nat} (h : Eight W C n k) (hk : k < 8) : Eight (W.setCell ⟨C, k, none⟩ (.int .u8 (n / 2 ^ (56 - 8 * k) % 256))) C n (k + 1) := by
  obtain ⟨cs, t, h, h1, h2⟩ := h
  refine ⟨_, t, cells_set h k _, by simp [h1], fun j hj => ?_⟩
  by_cases e : j = k
  · subst e
    rw [Array.getElem?_setIfInBounds_self_of_lt (by omega), if_pos (by omega), be8_at n j hk]
  · rw [Array.getElem?_setIfInBounds_ne (fun x => e x.symm), h2 j hj]
    by_cases g : j < k
    · rw [if_pos g, if_pos (by omega)]
    · rw [if_neg g, if_neg (by omega)]
theorem Eight.row {W : World} {C : Nat} {n : Int} (h : Eight W C n 8) : Row .u8 W (.slice (some ⟨C, 0, none⟩) 8 8) (be8 n) := by
  have hl : (be8 n).length = 8 := rfl
  refine ⟨_, _, rfl, by rw [hl]; exact Nat.le_refl _, by unfold maxLen; omega, (fun e => by cases e), fun x hx => byte_wf_of ?_, fun _ => ⟨C, 0, rfl, h.lt, fun i hi => ?_⟩⟩
  · simp only [be8, List.mem_map] at hx
    obtain ⟨i, _, rfl⟩ := hx
    unfold byte; omega
  · have := h.cell i (by omega)
    rw [if_pos (by omega)] at this
    simpa using this

set_option maxRecDepth 100000 in
set_option maxHeartbeats 2000000 in
theorem Int_any (n : Int) (w : World) :
    Calls Tryz.prog 17 #[.int .i64 n] w fun e w' => (∃ a c, e = .returned (.agg #[.int .i64 2, .slice a (intB n).length c, .slice none 0 0]) ∧
      Own w.heap.size none w' (.slice a (intB n).length c) (.slice none 0 0) (.mk 2 (intB n) [])) ∧ Below w.heap.size w w' := by
  obtain ⟨B, hB⟩ : ∃ B, w.heap.size = B := ⟨_, rfl⟩
  rw [hB]
  go_enter Tryz.func17, Tryz.ntmps17
  go_wp2_with fail
  go_loopw [4, 6] (fun _ i wr => ∃ k : Nat, i = .int .i64 k ∧ k ≤ 8 ∧ Trip wr B 45 (.int .i64 0) (.slice none 0 0) (.slice none 0 0) ∧ Eight wr (B + 1) n k ∧ Below B w wr) (fun _ i _ => 8 - (intOf i).toNat)
  case atStart =>
    refine ⟨0, rfl, Nat.zero_le _, ?_, ⟨#[.int .u8 0, .int .u8 0, .int .u8 0, .int .u8 0, .int .u8 0, .int .u8 0, .int .u8 0, .int .u8 0], 82, ?_, rfl, fun j hj => ?_⟩, ?_⟩
    · rw [← hB]; exact (Trip.new w _ _ _ _).alloc _
    · rw [← hB]
      have := World.alloc_heap_new (w.alloc (.cells #[.int .i64 0, .slice none 0 0, .slice none 0 0] 45)) (.cells #[.int .u8 0, .int .u8 0, .int .u8 0, .int .u8 0, .int .u8 0, .int .u8 0, .int .u8 0, .int .u8 0] 82)
      rw [World.size_alloc] at this
      exact this
    · rw [if_neg (Nat.not_lt_zero j)]
      match j, hj with
      | 0, _ => rfl
      | 1, _ => rfl
      | 2, _ => rfl
      | 3, _ => rfl
      | 4, _ => rfl
      | 5, _ => rfl
      | 6, _ => rfl
      | 7, _ => rfl
    · rw [← hB]; exact ((Below.refl _ w).alloc (Nat.le_refl _) _).alloc (by simp) _
  case round =>
    obtain ⟨k, rfl, hk, hd, h8, hb⟩ := hrel
    by_cases hk8 : k < 8
    · have k0 : (0 : Int) ≤ (k : Int) := by omega
      have k1 : (k : Int) < 8 := by omega
      have k2 : (k : Int).toNat = k := by omega
      have c0 := h8.cell k hk8; have f0 := h8.free k
      have e1 : IntKind.i64.wrap (8 * (k : Int)) = 8 * (k : Int) := IntWalk.i64_in _ (by omega)
      have e2 : IntKind.i64.wrap (56 - 8 * (k : Int)) = 56 - 8 * (k : Int) := IntWalk.i64_in _ (by omega)
      have e3 : IntKind.i64.wrap ((k : Int) + 1) = (k : Int) + 1 := IntWalk.i64_in _ (by omega)
      have hd2 := hd.other (p := ⟨B + 1, k, none⟩) (by simp) (.int .u8 (n / 2 ^ (56 - 8 * k) % 256))
      have h82 := h8.set hk8
      have hb2 := hb.setCell (p := ⟨B + 1, k, none⟩) (show B ≤ B + 1 by omega) (.int .u8 (n / 2 ^ (56 - 8 * k) % 256))
      have HD2 := Lib.hid hd2; have H82 := Lib.hid h82; have HB2 := Lib.hid hb2
      clear hd2 h82 hb2 hd h8 hb
      go_wp2_with fail
      go_roundw
      case rel => exact ⟨k + 1, by go_num, by omega, HD2.out, H82.out, HB2.out⟩
      case measure => simp [intOf]; omega
    · have hk9 : k = 8 := by omega
      have hk1 : ¬ (k : Int) < 8 := by omega
      have hrow := (show Eight wr (B + 1) n 8 from hk9 ▸ h8).row
      have HR := Lib.hid hrow; have HD := Lib.hid hd; have HBe := Lib.hid hb
      clear hd h8 hb hrow hk9
      go_wp2_with fail
      go_loopw [5] (fun s wr => ∃ (l : List Int) (a : Option Addr) (c : Nat), s = .slice a l.length c ∧ Row .u8 wr (.slice a l.length c) l ∧ trimI l = intB n ∧ 1 ≤ l.length ∧ l.length ≤ 8 ∧ Trip wr B 45 (.int .i64 0) (.slice none 0 0) (.slice none 0 0) ∧ Below B w wr) (fun s _ => lenOf s)
      case atStart => exact ⟨be8 n, _, _, rfl, HR.out, rfl, show 1 ≤ 8 by decide, Nat.le_refl 8, HD.out, HBe.out⟩
      case round =>
        obtain ⟨l, a, c, rfl, hr, ht, hl1, hl8, hd, hb⟩ := hrel
        obtain ⟨b, off, rfl, hbl, -⟩ := hr.cellAt 0 (by omega)
        obtain ⟨L, hL⟩ : ∃ L, l.length = L := ⟨_, rfl⟩
        rw [hL] at hr hl1 hl8 ⊢
        have hLc : L ≤ c := by obtain ⟨_, _, e', hc, _⟩ := hr; cases e'; omega
        have HR2 := Lib.hid hr; have HT := Lib.hid ht; have HD2 := Lib.hid hd; have HB2 := Lib.hid hb; have HL := Lib.hid hL
        clear hr ht hd hb hL hbl
        have hCl := Clone8_any _ l _ HR2.out (by rw [HL.out]; omega)
        by_cases h1 : 1 < L
        · have h1' : (1 : Int) < (L : Int) := by omega
          have hC := least_any _ l _ HR2.out (by rw [HL.out]; omega)
          obtain ⟨M, hM⟩ : ∃ M, Dm.least l = M := ⟨_, rfl⟩
          rw [hM] at hC
          have HM := Lib.hid hM
          clear hM
          cases M with
          | false =>
            clear hCl
            have h1c : 1 < c := by omega
            have rc := Row.cut HR2.out 1 (by rw [HL.out]; omega) h1c
            rw [Option.map_some, addr_add] at rc
            have ht2 : trimI (l.drop 1) = intB n := by rw [← trimI_step (by rw [HL.out]; exact h1) HM.out]; exact HT.out
            have hl2 : (l.drop 1).length = L - 1 := by rw [List.length_drop, HL.out]
            have RC := Lib.hid rc; have HT2 := Lib.hid ht2; have HL2 := Lib.hid hl2
            clear rc ht2 hl2
            go_wp2_with fail
            refine hC.mono ?_; rintro e w' ⟨rfl, rfl⟩
            clear hC
            go_wp2_with fail
            go_roundw
            case rel => exact ⟨l.drop 1, _, _, by rw [HL2.out], by rw [HL2.out]; exact RC.out, HT2.out, by rw [HL2.out]; omega, by rw [HL2.out]; omega, HD2.out, HB2.out⟩
            case measure => simp [lenOf]; omega
          | true =>
            go_wp2_with fail
            refine hC.mono ?_; rintro e w' ⟨rfl, rfl⟩
            clear hC
            go_wp2_with fail
            refine hCl.mono ?_; rintro e w4 ⟨r, rfl, own, hb4⟩
            have q4 := trip_stp HD2.out hb4
            have hB4 := HB2.out.trans (hb4.mono (by have := HD2.out.lt; omega))
            have rr := Row.of_bytes own (fun z hz => HR2.out.all_byte z hz)
            obtain ⟨ar, cr, rfl⟩ := rr.shape L HL.out
            have hlt : B < wr.heap.size := HD2.out.lt
            have HOw := Lib.hid own; have HRr := Lib.hid rr; have Q4 := Lib.hid q4; have HB4 := Lib.hid hB4
            have hoff := rr.off_trip q4
            have HOff := Lib.hid hoff
            clear hCl own rr hB4 hb4 hoff
            have f0 := q4.free 0; have f1 := q4.free 1; have f2 := q4.free 2; have x0 := q4.cell0; have x1 := q4.cell1; have x2 := q4.cell2; have xl := q4.lt
            clear q4
            go_wp2_with fail
            refine bodyPost_ret (item_ret1 rfl rfl (trip3 Q4.out _ _ _)) rfl ?_
            obtain rfl : l = intB n := by rw [← HT.out]; exact (trimI_stop (.inr HM.out)).symm
            refine ⟨⟨ar, cr, by rw [HL.out], Own.bytes (by decide) ?_ ?_⟩, bel3' HB4.out (Nat.le_refl _) _ _ _⟩
            · show Row .u8 _ (.slice ar (intB n).length cr) (intB n)
              rw [HL.out]; exact HRr.out.aside3 HOff.out _ _ _
            · rintro bb oo nn cc e0 h0
              cases e0
              have := (OwnB.blk HOw.out bb rfl).1; omega
        · have h1' : ¬ (1 : Int) < (L : Int) := by omega
          go_wp2_with fail
          refine hCl.mono ?_; rintro e w4 ⟨r, rfl, own, hb4⟩
          have q4 := trip_stp HD2.out hb4
          have hB4 := HB2.out.trans (hb4.mono (by have := HD2.out.lt; omega))
          have rr := Row.of_bytes own (fun z hz => HR2.out.all_byte z hz)
          obtain ⟨ar, cr, rfl⟩ := rr.shape L HL.out
          have hlt : B < wr.heap.size := HD2.out.lt
          have HOw := Lib.hid own; have HRr := Lib.hid rr; have Q4 := Lib.hid q4; have HB4 := Lib.hid hB4
          have hoff := rr.off_trip q4
          have HOff := Lib.hid hoff
          clear hCl own rr hB4 hb4 hoff
          have f0 := q4.free 0; have f1 := q4.free 1; have f2 := q4.free 2; have x0 := q4.cell0; have x1 := q4.cell1; have x2 := q4.cell2; have xl := q4.lt
          clear q4
          go_wp2_with fail
          refine bodyPost_ret (item_ret1 rfl rfl (trip3 Q4.out _ _ _)) rfl ?_
          obtain rfl : l = intB n := by rw [← HT.out]; exact (trimI_stop (.inl (by rw [HL.out]; omega))).symm
          refine ⟨⟨ar, cr, by rw [HL.out], Own.bytes (by decide) ?_ ?_⟩, bel3' HB4.out (Nat.le_refl _) _ _ _⟩
          · show Row .u8 _ (.slice ar (intB n).length cr) (intB n)
            rw [HL.out]; exact HRr.out.aside3 HOff.out _ _ _
          · rintro bb oo nn cc e0 h0
            cases e0
            have := (OwnB.blk HOw.out bb rfl).1; omega
end Go.Proofs.YtfdchdnkblmijaaGreatDoor
end

section
namespace Go.Proofs.YtfdchdnkblmijaaGreatDoor
open Go.RowKit

def strB (s : ByteArray) : List Int := s.data.toList.map fun b => (b.toNat : Int)
theorem strB_len (s : ByteArray) : (strB s).length = s.size := by unfold strB; rw [List.length_map]; exact Array.length_toList
theorem strB_byte (s : ByteArray) : ∀ x ∈ strB s, byte x := by
  intro x hx
  obtain ⟨b, _, rfl⟩ := List.mem_map.1 hx
  have := b.toNat_lt
  unfold byte; omega
theorem str_row (w : World) (s : ByteArray) (cap : Nat) (hc : s.size ≤ cap) (hm : cap ≤ maxLen) (e : TypeId) (fr : Nat × Nat) :
    Row .u8 (w.alloc (.cells (bytesRow s cap) e fr)) (.slice (some ⟨w.heap.size, 0, none⟩) (strB s).length cap) (strB s) := by
  refine ⟨_, _, rfl, by rw [strB_len]; exact hc, hm, (fun e => by cases e), fun x hx => byte_wf_of (strB_byte s x hx), fun _ => ⟨w.heap.size, 0, rfl, by simp, fun i hi => ?_⟩⟩
  have hi' : i < s.data.size := by rw [strB_len] at hi; exact hi
  have := bytesRow_at s cap i hi'
  have hn := World.alloc_heap_new w (.cells (bytesRow s cap) e fr)
  simp only [World.cell?, Nat.zero_add, hn, this]
  unfold strB
  rw [List.getElem?_map, Array.getElem?_toList, Array.getElem?_eq_getElem hi']; rfl

set_option maxRecDepth 100000 in
theorem Oct_mk (v : Value) (l : List Int) (w : World) (h : Row .u8 w v l) (hlen : l.length ≤ 10000000) :
    Calls Tryz.prog 18 #[v] w fun e w' => (∃ a c, e = .returned (.agg #[.int .i64 4, .slice a l.length c, .slice none 0 0]) ∧
      Own w.heap.size none w' (.slice a l.length c) (.slice none 0 0) (.mk 4 l [])) ∧ Below w.heap.size w w' := by
  have hby := h.all_byte
  obtain ⟨B, hB⟩ : ∃ B, w.heap.size = B := ⟨_, rfl⟩
  rw [hB]
  have q0 := Trip.new w 45 (.int .i64 0) (.slice none 0 0) (.slice none 0 0)
  have hb0 := (Below.refl w.heap.size w).alloc (Nat.le_refl _) (.cells #[.int .i64 0, .slice none 0 0, .slice none 0 0] 45)
  obtain ⟨W, hW⟩ : ∃ W, w.alloc (.cells #[.int .i64 0, .slice none 0 0, .slice none 0 0] 45) = W := ⟨_, rfl⟩
  rw [hW] at q0 hb0
  have hCl := Clone8_any v l W (h.below hb0) hlen
  rw [hB] at q0 hb0
  have HW := Lib.hid hW; have HBy := Lib.hid hby
  clear hW hby h
  go_enter Tryz.func18, Tryz.ntmps18
  go_wp2_with fail
  rw [HW.out]
  (try rw [hB])
  (try go_wp2_with fail)
  refine hCl.mono ?_; rintro e w4 ⟨r, rfl, own, hb4⟩
  have hlt := q0.lt
  have q4 := trip_stp q0 hb4
  have hB4 := hb0.trans (hb4.mono (Nat.le_of_lt hlt))
  have rr := Row.of_bytes own HBy.out
  obtain ⟨ar, cr, rfl⟩ := rr.shape l.length rfl
  have hoff := rr.off_trip q4
  have HOw := Lib.hid own; have HRr := Lib.hid rr; have Q4 := Lib.hid q4; have HB4 := Lib.hid hB4; have HOff := Lib.hid hoff
  clear hCl own rr hB4 hb4 hoff q0 hb0
  have f0 := q4.free 0; have f1 := q4.free 1; have f2 := q4.free 2; have x0 := q4.cell0; have x1 := q4.cell1; have x2 := q4.cell2; have xl := q4.lt
  clear q4
  go_wp2_with fail
  refine bodyPost_ret (item_ret1 rfl rfl (trip3 Q4.out _ _ _)) rfl ?_
  refine ⟨⟨ar, cr, rfl, Own.bytes (by decide) (HRr.out.aside3 HOff.out _ _ _) ?_⟩, bel3' HB4.out (Nat.le_refl _) _ _ _⟩
  rintro bb oo nn cc e0 h0
  cases e0
  have := (OwnB.blk HOw.out bb rfl).1; omega

set_option maxRecDepth 100000 in
theorem Bool_mk (v : Bool) (w : World)  :
    Calls Tryz.prog 41 #[.bool v] w fun e w' => (∃ a c, e = .returned (.agg #[.int .i64 1, .slice a 1 c, .slice none 0 0]) ∧
      Own w.heap.size none w' (.slice a 1 c) (.slice none 0 0) (.mk 1 [if v then 255 else 0] [])) ∧ Below w.heap.size w w' := by
  have key : ∀ x : Int, byte x → Trip ((w.alloc (.cells #[.int .i64 1, .slice (some ⟨w.heap.size + 1, 0, none⟩) 1 1, .slice none 0 0] 45)).alloc (.cells #[.int .u8 x] 5)) w.heap.size 45 (.int .i64 1) (.slice (some ⟨w.heap.size + 1, 0, none⟩) 1 1) (.slice none 0 0) ∧
      Own w.heap.size none ((w.alloc (.cells #[.int .i64 1, .slice (some ⟨w.heap.size + 1, 0, none⟩) 1 1, .slice none 0 0] 45)).alloc (.cells #[.int .u8 x] 5)) (.slice (some ⟨w.heap.size + 1, 0, none⟩) 1 1) (.slice none 0 0) (.mk 1 [x] []) ∧
      Below w.heap.size w ((w.alloc (.cells #[.int .i64 1, .slice (some ⟨w.heap.size + 1, 0, none⟩) 1 1, .slice none 0 0] 45)).alloc (.cells #[.int .u8 x] 5)) := by
    intro x hx
    refine ⟨(Trip.new w _ _ _ _).alloc _, Own.bytes (by decide) ?_ ?_, ((Below.refl _ w).alloc (Nat.le_refl _) _).alloc (by simp) _⟩
    · have := Row.lit8 (w.alloc (.cells #[.int .i64 1, .slice (some ⟨w.heap.size + 1, 0, none⟩) 1 1, .slice none 0 0] 45)) [x] (by simp) (by simpa using hx) 1 rfl
      rw [World.size_alloc] at this
      exact this
    · rintro bb oo nn cc e0 h0
      cases e0; omega
  have HK := Lib.hid key
  clear key
  cases v
  · go_enter Tryz.func41, Tryz.ntmps41
    go_wp2_with fail
    obtain ⟨k1, k2, k3⟩ := HK.out 0 ⟨by decide, by decide⟩
    exact bodyPost_ret (item_ret1 rfl rfl k1) rfl ⟨⟨_, _, rfl, k2⟩, k3⟩
  · go_enter Tryz.func41, Tryz.ntmps41
    go_wp2_with fail
    obtain ⟨k1, k2, k3⟩ := HK.out 255 ⟨by decide, by decide⟩
    exact bodyPost_ret (item_ret1 rfl rfl k1) rfl ⟨⟨_, _, rfl, k2⟩, k3⟩
end Go.Proofs.YtfdchdnkblmijaaGreatDoor
end

section
namespace Go.Proofs.YtfdchdnkblmijaaGreatDoor
open Go.RowKit

/-- The cells of items that lie in a row. -/
theorem items_cells {W : World} {b : Nat} (hlt : b < W.heap.size) : ∀ {l : List Dm.It} {o : Nat}, ItemsAt W b o l → ∃ xs : List Value, xs.length = l.length * 3 ∧ (∀ j u, xs[j]? = some u → W.cell? ⟨b, o + j, none⟩ = some u) ∧ (∀ u ∈ xs, u.oneCell' = true) ∧
    ∀ (V : World) (b' o' : Nat), Below W.heap.size W V → (∀ j u, xs[j]? = some u → V.cell? ⟨b', o' + j, none⟩ = some u) → ItemsAt V b' o' l
  | [], _, _ => ⟨[], rfl, (fun j u h => by simp at h), (fun u h => by simp at h), fun V b' o' _ _ => by unfold ItemsAt; trivial⟩
  | x :: l, o, h => by
    unfold ItemsAt at h
    obtain ⟨xs, k0, k1, k2, k3⟩ := items_cells hlt h.2
    obtain ⟨ab, cb, al, cl, c0, c1, c2, hp⟩ := h.1.vals
    refine ⟨.int .i64 x.tag :: .slice ab x.b.length cb :: .slice al x.l.length cl :: xs, by simp [k0]; omega, fun j u hj => ?_, fun u hu => ?_, fun V b' o' hb hc => ?_⟩
    · match j, hj with
      | 0, hj => simp at hj; subst hj; exact c0
      | 1, hj => simp at hj; subst hj; exact c1
      | 2, hj => simp at hj; subst hj; exact c2
      | j + 3, hj =>
        have := k1 j u (by simpa using hj)
        rw [show o + (j + 3) = o + 3 + j by omega]; exact this
    · simp only [List.mem_cons] at hu
      rcases hu with rfl | rfl | rfl | hu
      · rfl
      · rfl
      · rfl
      · exact k2 u hu
    · unfold ItemsAt
      refine ⟨ItemAt.of (hc 0 _ rfl) (hc 1 _ rfl) (hc 2 _ rfl) (hp.below hb), k3 V b' (o' + 3) hb fun j u hj => ?_⟩
      rw [show o' + 3 + j = o' + (j + 3) by omega]
      exact hc (j + 3) u (by simpa using hj)
theorem info_item' : (Tryz.prog.info? 45).map (fun i => (i.zero, i.size, i.bytes)) = some (some (.agg #[.int .i64 0, .slice none 0 0, .slice none 0 0]), 3, 56) := by kernel_rfl
/-- Items laid into a row of the call's own. -/
theorem its_of_owns {V : World} {l : List Dm.It} {xs : List Value} {base : Nat} {e : TypeId} {v : Value}
    (hk : ∀ (b' o' : Nat), (∀ j u, xs[j]? = some u → V.cell? ⟨b', o' + j, none⟩ = some u) → ItemsAt V b' o' l) (ho : V.ownsRow base e 3 v l.length xs) : ItsV V v l := by
  rcases ho.2 with ⟨rfl, h0⟩ | ⟨g, cap, cur, rfl, hb, hg, h1, h2, h3, h4⟩
  · have : l = [] := List.eq_nil_of_length_eq_zero h0
    subst this
    exact ItsV.nil _
  · refine ⟨_, _, rfl, h1, h2, (fun h => by cases h), fun _ => ⟨g, 0, rfl, (Array.getElem?_eq_some_iff.1 hg).1, hk g 0 fun j u hj => ?_⟩⟩
    have := ho.cells (g := g) rfl j u hj
    rwa [addr_add] at this

set_option maxHeartbeats 1000000 in
theorem CloneI_of (w0 : World) (v : Value) (l : List Dm.It) (w : World) (hw : Below w0.heap.size w0 w) (h : ItsV w0 v l) (hlen : l.length ≤ 1000000) :
    Calls Tryz.prog 56 #[v] w fun e w' => (∃ r, e = .returned r ∧ (∀ V, Below w0.heap.size w0 V → (∀ g, r.ownBlock = some g → V.heap[g]? = w'.heap[g]?) → ItsV V r l) ∧ (∀ g, r.ownBlock = some g → w.heap.size ≤ g) ∧ ∃ a c, r = .slice a l.length c) ∧ Below w.heap.size w w' := by
  have hq := Lib.run_eql_slice_nil (P := Tryz.prog) (t := 43) (e := 45)
  obtain ⟨j0, gi, gz0, gz1, gz2⟩ := info_parts info_item'
  obtain ⟨a, cap, rfl, hl, hc, h0, hr⟩ := h
  cases a with
  | none =>
    obtain rfl : cap = 0 := h0 rfl
    obtain rfl : l = [] := List.length_eq_zero_iff.1 (by omega)
    clear h0 hr
    go_enter Tryz.func56, Tryz.ntmps56
    go_wp2
    go_ret
    exact ⟨⟨_, rfl, fun V _ _ => ItsV.nil _, (fun g h => by cases h), _, _, rfl⟩, Below.refl _ _⟩
  | some ad =>
    have hx : ∃ xs : List Value, xs.length = l.length * 3 ∧ (∀ j u, xs[j]? = some u → w0.cell? (ad.add j) = some u) ∧ (∀ u ∈ xs, u.oneCell' = true) ∧
        ∀ (V : World) (b' o' : Nat), Below w0.heap.size w0 V → (∀ j u, xs[j]? = some u → V.cell? ⟨b', o' + j, none⟩ = some u) → ItemsAt V b' o' l := by
      by_cases hne : l = []
      · subst hne
        exact ⟨[], rfl, (fun j u h => by simp at h), (fun u h => by simp at h), fun V b' o' _ _ => by unfold ItemsAt; trivial⟩
      · obtain ⟨b, o, e, hlt, hi⟩ := hr hne
        cases e
        obtain ⟨xs, k0, k1, k2, k3⟩ := items_cells hlt hi
        exact ⟨xs, k0, fun j u hj => by rw [addr_add]; exact k1 j u hj, k2, k3⟩
    obtain ⟨xs, k0, k1, k2, k3⟩ := hx
    have own0 : (w.alloc (.cells #[] 45)).ownsRow w.heap.size 45 3 (.slice (some ⟨w.heap.size, 0, none⟩) 0 0) 0 [] :=
      World.ownsRow_made w #[] 0 (Nat.le_refl _) (Nat.zero_le _) rfl
    have k1' : ∀ j u, xs[j]? = some u → (w.alloc (.cells #[] 45)).cell? (ad.add j) = some u := fun j u hj => by
      have h1 := k1 j u hj
      have hlt := World.block_lt_of_cell? w0 _ h1
      exact ((hw.alloc hw.size (.cells #[] 45)).cell hlt).trans h1
    have hb0 := (Below.refl w.heap.size w).alloc (Nat.le_refl _) (.cells #[] 45)
    have HX := Lib.hid k0; have HK := Lib.hid k1'; have HO := Lib.hid k2; have HI := Lib.hid k3; have HOwn := Lib.hid own0; have HB := Lib.hid hb0
    clear h0 hr k0 k1 k2 k3 k1' own0 hb0
    obtain ⟨n, hn⟩ : ∃ n, l.length = n := ⟨_, rfl⟩
    rw [hn] at hl hlen ⊢
    have HN := Lib.hid hn
    clear hn
    go_enter Tryz.func56, Tryz.ntmps56
    go_wp2_with (at_builtin; refine wpList_append_own_at _ rfl _ _ 43 rfl w.heap.size 45 j0 (.agg #[.int .i64 0, .slice none 0 0, .slice none 0 0]) 3 56 Tryz.underlying43 gi gz0 gz1 gz2 rfl (by decide) _ 0 [] rfl HOwn.out ad n cap xs rfl (by rw [HX.out, HN.out]) HK.out HO.out (by unfold maxLen; omega) (by omega) (by simp) ?_; intro v' w5 own5 hgrow _ hat)
    go_ret
    have hb5 : Below w.heap.size w w5 := HB.out.grown hgrow (by simp) (fun k e => by cases e; exact Nat.le_refl _)
    rw [Nat.zero_add, List.nil_append, ← HN.out] at own5
    obtain ⟨a5, n5, c5, rfl⟩ := owns_slice own5
    have hn5 : n5 = l.length := by
      rcases own5.2 with ⟨h1, h2⟩ | ⟨g', cap', cur, h1, _⟩
      · cases h1; omega
      · cases h1; rfl
    subst hn5
    exact ⟨⟨_, rfl, fun V hV hg => its_of_owns (fun b' o' hc => HI.out V b' o' hV hc) ⟨own5.1, own5.2.imp_right (by
      rintro ⟨g, cap', cur, e, q1, q2, r⟩
      exact ⟨g, cap', cur, e, q1, (hg g (by rw [e]; rfl)).trans q2, r⟩)⟩, fun g hg => (own_at own5 hg).1, _, _, by rw [HN.out]; rfl⟩, hb5⟩
theorem CloneI_any (v : Value) (l : List Dm.It) (w : World) (h : ItsV w v l) (hlen : l.length ≤ 1000000) :
    Calls Tryz.prog 56 #[v] w fun e w' => (∃ r, e = .returned r ∧ ItsV w' r l) ∧ Below w.heap.size w w' :=
  (CloneI_of w v l w (Below.refl _ _) h hlen).mono fun _ w' ⟨⟨r, he, hi, _⟩, hb⟩ => ⟨⟨r, he, hi w' hb fun _ _ => rfl⟩, hb⟩

set_option maxRecDepth 100000 in
theorem Seq_mk (v : Value) (l : List Dm.It) (w : World) (h : ItsV w v l) (hlen : l.length ≤ 1000000) :
    Calls Tryz.prog 20 #[v] w fun e w' => (∃ a c, e = .returned (.agg #[.int .i64 48, .slice none 0 0, .slice a l.length c]) ∧
      ItP w' (.slice none 0 0) (.slice a l.length c) (.mk 48 [] l)) ∧ Below w.heap.size w w' := by
  obtain ⟨B, hB⟩ : ∃ B, w.heap.size = B := ⟨_, rfl⟩
  rw [hB]
  have q0 := Trip.new w 45 (.int .i64 0) (.slice none 0 0) (.slice none 0 0)
  have hb0 := (Below.refl w.heap.size w).alloc (Nat.le_refl _) (.cells #[.int .i64 0, .slice none 0 0, .slice none 0 0] 45)
  obtain ⟨W, hW⟩ : ∃ W, w.alloc (.cells #[.int .i64 0, .slice none 0 0, .slice none 0 0] 45) = W := ⟨_, rfl⟩
  rw [hW] at q0 hb0
  have hCl := CloneI_of w v l W hb0 h hlen
  rw [hB] at q0 hb0
  have HW := Lib.hid hW
  clear hW h
  go_enter Tryz.func20, Tryz.ntmps20
  go_wp2_with fail
  rw [HW.out]
  (try rw [hB])
  (try go_wp2_with fail)
  refine hCl.mono ?_; rintro e w4 ⟨⟨r, rfl, hi, hg, ar, cr, rfl⟩, hb4⟩
  have hlt := q0.lt
  have q4 := trip_stp q0 hb4
  have hB4 := hb0.trans (hb4.mono (Nat.le_of_lt hlt))
  have HI := Lib.hid hi; have Q4 := Lib.hid q4; have HB4 := Lib.hid hB4; have HG := Lib.hid hg
  clear hCl hi hB4 hb4 q0 hb0 hg
  have f0 := q4.free 0; have f1 := q4.free 1; have f2 := q4.free 2; have x0 := q4.cell0; have x1 := q4.cell1; have x2 := q4.cell2; have xl := q4.lt
  clear q4
  go_wp2_with fail
  refine bodyPost_ret (item_ret1 rfl rfl (trip3 Q4.out _ _ _)) rfl ?_
  have hb5 := bel3' HB4.out (Nat.le_refl B) (.int .i64 48) (.slice none 0 0) (.slice ar l.length cr)
  refine ⟨⟨ar, cr, rfl, (show (Lit.int .i64 48).wf = true by decide), Row.nil _ _, HI.out _ (by rw [hB]; exact hb5) fun g hg => ?_⟩, hb5⟩
  have := HG.out g hg
  exact ((Below.heap_setCell _ ⟨B, 2, none⟩ _ g (show g ≠ B by omega)).trans (Below.heap_setCell _ ⟨B, 1, none⟩ _ g (show g ≠ B by omega))).trans (Below.heap_setCell _ ⟨B, 0, none⟩ _ g (show g ≠ B by omega))
end Go.Proofs.YtfdchdnkblmijaaGreatDoor
end

section
namespace Go.Proofs.YtfdchdnkblmijaaGreatDoor
open Go.RowKit

/-- What as tells. -/
def asE (x : Dm.It) (t : Int) : Int := if x.tag = t then (if Dm.may 8 x then 0 else 71) else 72
/-- What as hands back. -/
def AsGen (E : Int) (R : Value → World → Prop) (z : Value) (e : Ending) (w' : World) : Prop := ∃ v, e = .returned (.tuple #[v, .int .i64 E]) ∧ (if E = 0 then R v w' else v = z)
theorem asE_ne {x : Dm.It} {t : Int} (h : ¬ x.tag = t) : asE x t = 72 := if_neg h
theorem asE_may {x : Dm.It} {t : Int} (h : x.tag = t) : asE x t = if Dm.may 8 x then 0 else 71 := if_pos h
theorem may_b {x : Dm.It} (h : Dm.may 8 x = true) : Dm.mayB x.tag x.b = true := by
  cases x with
  | mk t b l =>
    unfold Dm.may at h
    simp only [Bool.and_eq_true] at h
    exact h.1.1.2
theorem least_len {b : List Int} (h : Dm.least b = true) : 1 ≤ b.length ∧ b.length ≤ 8 := by
  match b, h with
  | [_], _ => exact ⟨Nat.le_refl _, by simp⟩
  | x :: y :: r, h =>
    unfold Dm.least at h
    simp only [Bool.and_eq_true, decide_eq_true_eq] at h
    have := h.1
    simp; omega
/-- The number that bytes are. -/
def signI (x : Int) : Int := if x < 128 then x else x - 256
def foldI (n : Int) (r : List Int) : Int := r.foldl (fun n b => 256 * n + b) n
def numI : List Int → Int
  | [] => 0
  | x :: r => foldI (signI x) r
theorem foldI_take {n : Int} {r : List Int} {k : Nat} (hk : k < r.length) : foldI n (r.take (k + 1)) = 256 * foldI n (r.take k) + r[k]?.getD 0 := by
  unfold foldI
  rw [List.take_add_one, List.foldl_append, List.getElem?_eq_getElem hk]; rfl
theorem foldI_in : ∀ (r : List Int) (n : Int) (k : Nat), (∀ b ∈ r, byte b) → -(128 * 256 ^ k) ≤ n → n < 128 * 256 ^ k → -(128 * 256 ^ (k + r.length)) ≤ foldI n r ∧ foldI n r < 128 * 256 ^ (k + r.length)
  | [], n, k, _, h1, h2 => ⟨h1, h2⟩
  | b :: r, n, k, hb, h1, h2 => by
    have hb0 := hb b (by simp)
    unfold byte at hb0
    have e : (256 : Int) ^ (k + 1) = 256 * 256 ^ k := by rw [Int.pow_succ, Int.mul_comm]
    have := foldI_in r (256 * n + b) (k + 1) (fun z hz => hb z (by simp [hz])) (by rw [e]; omega) (by rw [e]; omega)
    rw [show k + 1 + r.length = k + (b :: r).length by simp; omega] at this
    exact this
theorem or_b8' (n b : Int) (h1 : -36028797018963968 ≤ n) (h2 : n < 36028797018963968) (hb : byte b) : bits .or .i64 (n * 256) b = n * 256 + b := by
  unfold byte at hb
  obtain ⟨q, hq⟩ : ∃ q : Nat, (n * 256) % 18446744073709551616 = 256 * (q : Int) := ⟨(n % 72057594037927936).toNat, by omega⟩
  have t1 : (BitVec.ofInt 64 (n * 256)).toNat = 2 ^ 8 * q := by
    rw [BitVec.toNat_ofInt, show ((2 ^ 64 : Nat) : Int) = 18446744073709551616 by decide, hq]; omega
  obtain ⟨c, rfl⟩ := Int.eq_ofNat_of_zero_le hb.1
  have t2 : (BitVec.ofInt 64 (c : Int)).toNat = c := by rw [BitVec.ofInt_natCast, BitVec.toNat_ofNat]; exact Nat.mod_eq_of_lt (by omega)
  show IntKind.i64.wrap ((BitVec.ofInt 64 (n * 256) ||| BitVec.ofInt 64 (c : Int)).toNat : Int) = _
  rw [BitVec.toNat_or, t1, t2, ← Nat.two_pow_add_eq_or_of_lt (show c < 2 ^ 8 by omega) q, IntKind.wrap_i64]
  omega
theorem i8_wrap (x : Int) (h : byte x) : IntKind.i8.wrap x = signI x := by
  unfold byte at h
  unfold signI
  simp only [IntKind.wrap, IntKind.bits, IntKind.signed]; simp; split <;> split <;> omega

set_option maxRecDepth 100000 in
set_option maxHeartbeats 1000000 in
theorem AsInt_in (x : Dm.It) (vb vl : Value) (w : World) (hp : ItP w vb vl x) (h1 : 1 ≤ x.b.length) (h8 : x.b.length ≤ 8) :
    Calls Tryz.prog 64 #[.agg #[.int .i64 x.tag, vb, vl]] w fun e w' => e = .returned (.int .i64 (numI x.b)) ∧ Below w.heap.size w w' := by
  obtain ⟨ab, cb, rfl⟩ := hp.2.1.shape x.b.length rfl
  obtain ⟨al, cl, rfl⟩ := hp.2.2.shape
  have hb0 := (Below.refl w.heap.size w).alloc (Nat.le_refl _) (.cells #[.int .i64 x.tag, .slice ab x.b.length cb, .slice al x.l.length cl] 45)
  have hr := hp.2.1
  obtain ⟨b, off, rfl, hlt, ct⟩ := hr.cellAt 0 (by omega)
  have hby := hr.all_byte
  cases hxb : x.b with
  | nil => rw [hxb] at h1; simp at h1
  | cons x0 r =>
    rw [hxb] at hr ct h1 h8 hby hb0
    simp only [List.getElem?_cons_zero, Option.getD_some, Nat.add_zero] at ct
    obtain ⟨T, hT⟩ : ∃ T, x.tag = T := ⟨_, rfl⟩
    obtain ⟨nl, hnl⟩ : ∃ n, x.l.length = n := ⟨_, rfl⟩
    rw [hT, hnl] at hb0 ⊢
    obtain ⟨L, hL⟩ : ∃ L, (x0 :: r).length = L := ⟨_, rfl⟩
    have hrl : r.length = L - 1 := by rw [← hL]; simp
    rw [hL] at hr h1 h8 hb0 ⊢
    have hLc : L ≤ cb := by obtain ⟨_, _, e', hc, _⟩ := hr; cases e'; rw [hL] at hc; exact hc
    have i8 := i8_wrap x0 (hby x0 (by simp))
    have hs : -128 ≤ signI x0 ∧ signI x0 < 128 := by have := hby x0 (by simp); unfold byte at this; unfold signI; split <;> omega
    have i64 : IntKind.i64.wrap (signI x0) = signI x0 := IntWalk.i64_in _ (by omega)
    obtain ⟨s, hsv⟩ : ∃ s, signI x0 = s := ⟨_, rfl⟩
    rw [hsv] at i8 hs i64
    have hnum : numI (x0 :: r) = foldI s r := by rw [← hsv]; rfl
    rw [hnum]
    have HR := Lib.hid hr; have HRL := Lib.hid hrl; have HB0 := Lib.hid hb0; have HBy := Lib.hid hby
    clear hr hb0 hnum hp hxb hT hnl hrl hby hL
    by_cases hc1 : cb = 1
    · obtain rfl : L = 1 := by omega
      have hr0 : r = [] := List.eq_nil_of_length_eq_zero (by have := HRL.out; omega)
      subst hr0
      subst hc1
      go_enter Tryz.func64, Tryz.ntmps64
      go_wp2_with fail
      go_loopw [3, 5, 16] (fun n _ i wr => n = .int .i64 s ∧ i = .int .i64 0 ∧ Below w.heap.size w wr) (fun _ _ _ _ => 0)
      case atStart => exact ⟨rfl, rfl, HB0.out⟩
      case round =>
        obtain ⟨rfl, rfl, hbw⟩ := hrel
        go_wp2_with fail
        go_ret
        exact ⟨rfl, hbw⟩
    have hc2 : 1 < cb := by omega
    have rc := Row.cut HR.out 1 (by simp) hc2
    rw [Option.map_some, addr_add, List.drop_one, List.tail_cons] at rc
    have rc2 := rc
    rw [← HRL.out] at rc2
    have HRC := Lib.hid rc2
    clear rc rc2
    go_enter Tryz.func64, Tryz.ntmps64
    go_wp2_with fail
    go_loopw [3, 5, 16] (fun n _ i wr => ∃ k : Nat, n = .int .i64 (foldI s (r.take k)) ∧ i = .int .i64 k ∧ k ≤ L - 1 ∧ Below w.heap.size w wr) (fun _ _ i _ => 10 - (intOf i).toNat)
    case atStart => exact ⟨0, rfl, rfl, Nat.zero_le _, HB0.out⟩
    case round =>
      obtain ⟨k, rfl, rfl, hk, hbw⟩ := hrel
      have k0 : (0 : Int) ≤ (k : Int) := by omega
      have e1 : IntKind.i64.wrap ((k : Int) + 1) = (k : Int) + 1 := IntWalk.i64_in _ (by omega)
      by_cases hlt2 : k < L - 1
      · have k1 : (k : Int) < ((L - 1 : Nat) : Int) := by omega
        have ft := foldI_take (n := s) (r := r) (k := k) (by rw [HRL.out]; exact hlt2)
        obtain ⟨b', o', e', hb', cx⟩ := (HRC.out.below hbw).cellAt k (by rw [HRL.out]; exact hlt2)
        cases e'
        have hyb : byte (r[k]?.getD 0) := by
          rw [List.getElem?_eq_getElem (by rw [HRL.out]; exact hlt2)]
          exact HBy.out _ (List.mem_cons_of_mem _ (List.getElem_mem _))
        have hin := foldI_in (r.take k) s 0 (fun z hz => HBy.out z (List.mem_cons_of_mem _ (List.mem_of_mem_take hz))) (by omega) (by omega)
        have hkl : (r.take k).length = k := by rw [List.length_take, HRL.out]; omega
        rw [hkl, Nat.zero_add] at hin
        obtain ⟨n, hn⟩ : ∃ n, foldI s (r.take k) = n := ⟨_, rfl⟩
        rw [hn] at ft hin ⊢
        obtain ⟨y, hy⟩ : ∃ y, r[k]?.getD 0 = y := ⟨_, rfl⟩
        rw [hy] at ft cx hyb
        have hp6 : (256 : Int) ^ k ≤ 281474976710656 := by
          have : k ≤ 6 := by omega
          match k, this with
          | 0, _ => decide
          | 1, _ => decide
          | 2, _ => decide
          | 3, _ => decide
          | 4, _ => decide
          | 5, _ => decide
          | 6, _ => decide
        have hn1 : -36028797018963968 ≤ n := by omega
        have hn2 : n < 36028797018963968 := by omega
        have hor := or_b8' n y hn1 hn2 hyb
        unfold byte at hyb
        have e2 : IntKind.i64.wrap (n * 256) = n * 256 := IntWalk.i64_in _ (by omega)
        have e3 : IntKind.i64.wrap y = y := IntWalk.i64_in _ (by omega)
        have hft : n * 256 + y = foldI s (r.take (k + 1)) := by rw [ft]; omega
        have HFT := Lib.hid hft
        clear hn hy hin hkl hft ft hp6
        go_wp2_with fail
        go_roundw
        case rel => exact ⟨k + 1, by rw [HFT.out], by go_num, by omega, hbw⟩
        case measure => simp [intOf]; omega
      · obtain rfl : k = L - 1 := by omega
        have htk : r.take (L - 1) = r := List.take_of_length_le (by rw [HRL.out]; exact Nat.le_refl _)
        rw [htk]
        clear htk
        go_wp2_with fail
        go_ret
        exact ⟨rfl, hbw⟩

set_option maxRecDepth 100000 in
theorem AsOct_in (x : Dm.It) (vb vl : Value) (w : World) (hp : ItP w vb vl x) (hlen : x.b.length ≤ 10000000) :
    Calls Tryz.prog 67 #[.agg #[.int .i64 x.tag, vb, vl]] w fun e w' => (∃ r, e = .returned r ∧ OwnB w' w.heap.size r x.b) ∧ Below w.heap.size w w' := by
  obtain ⟨ab, cb, rfl⟩ := hp.2.1.shape x.b.length rfl
  obtain ⟨al, cl, rfl⟩ := hp.2.2.shape
  have hb0 := (Below.refl w.heap.size w).alloc (Nat.le_refl _) (.cells #[.int .i64 x.tag, .slice ab x.b.length cb, .slice al x.l.length cl] 45)
  have hp1 := hp.alloc (.cells #[.int .i64 x.tag, .slice ab x.b.length cb, .slice al x.l.length cl] 45)
  have hC := Clone8_any _ x.b _ hp1.2.1 hlen
  have HB0 := Lib.hid hb0
  clear hb0 hp hp1
  go_enter Tryz.func67, Tryz.ntmps67
  go_wp2_with fail
  refine hC.mono ?_; rintro e w4 ⟨r, rfl, own, hb4⟩
  clear hC
  go_wp2_with fail
  go_ret
  exact ⟨⟨_, rfl, owns_base own HB0.out.size⟩, HB0.out.trans (hb4.mono HB0.out.size)⟩

set_option maxRecDepth 100000 in
theorem AsBool_in (x : Dm.It) (vb vl : Value) (w : World) (hp : ItP w vb vl x) (hb : x.b = [0] ∨ x.b = [255]) :
    Calls Tryz.prog 76 #[.agg #[.int .i64 x.tag, vb, vl]] w fun e w' => (e = .returned (.bool (decide (x.b = [255])))) ∧ Below w.heap.size w w' := by
  obtain ⟨ab, cb, rfl⟩ := hp.2.1.shape x.b.length rfl
  obtain ⟨al, cl, rfl⟩ := hp.2.2.shape
  have hb0 := (Below.refl w.heap.size w).alloc (Nat.le_refl _) (.cells #[.int .i64 x.tag, .slice ab x.b.length cb, .slice al x.l.length cl] 45)
  have hp1 := hp.alloc (.cells #[.int .i64 x.tag, .slice ab x.b.length cb, .slice al x.l.length cl] 45)
  have hlen : x.b.length = 1 := by rcases hb with h | h <;> rw [h] <;> rfl
  obtain ⟨b, off, rfl, hlt, ct⟩ := hp1.2.1.cellAt 0 (by omega)
  rw [hlen] at ct hb0 ⊢
  have HB0 := Lib.hid hb0
  clear hb0 hp hp1 hlt
  rcases hb with h | h
  all_goals
    rw [h] at ct ⊢
    simp only [List.getElem?_cons_zero, Option.getD_some, Nat.add_zero] at ct
    go_enter Tryz.func76, Tryz.ntmps76
    go_wp2_with fail
    go_ret
    exact ⟨rfl, HB0.out⟩

set_option maxRecDepth 100000 in
theorem AsSeq_in (x : Dm.It) (vb vl : Value) (w : World) (hp : ItP w vb vl x) (hlen : x.l.length ≤ 1000000) :
    Calls Tryz.prog 89 #[.agg #[.int .i64 x.tag, vb, vl]] w fun e w' => (∃ r, e = .returned r ∧ ItsV w' r x.l) ∧ Below w.heap.size w w' := by
  obtain ⟨ab, cb, rfl⟩ := hp.2.1.shape x.b.length rfl
  obtain ⟨al, cl, rfl⟩ := hp.2.2.shape
  have hb0 := (Below.refl w.heap.size w).alloc (Nat.le_refl _) (.cells #[.int .i64 x.tag, .slice ab x.b.length cb, .slice al x.l.length cl] 45)
  have hp1 := hp.alloc (.cells #[.int .i64 x.tag, .slice ab x.b.length cb, .slice al x.l.length cl] 45)
  have hC := CloneI_any _ x.l _ hp1.2.2 hlen
  have HB0 := Lib.hid hb0
  clear hb0 hp hp1
  go_enter Tryz.func89, Tryz.ntmps89
  go_wp2_with fail
  refine hC.mono ?_; rintro e w4 ⟨⟨r, rfl, hi⟩, hb4⟩
  clear hC
  go_wp2_with fail
  go_ret
  exact ⟨⟨_, rfl, hi⟩, HB0.out.trans (hb4.mono HB0.out.size)⟩

set_option maxRecDepth 100000 in
set_option maxHeartbeats 1000000 in
theorem asInt_of (x : Dm.It) (vb vl : Value) (t : Int) (w : World) (hk : KindsAt w) (hp : ItP w vb vl x) (hw : Dm.wt x ≤ 100000000000) (R : Value → World → Prop)
    (hG : x.tag = t → Dm.may 8 x = true → ∀ W, Below w.heap.size w W → Calls Tryz.prog 64 #[.agg #[.int .i64 x.tag, vb, vl]] W fun e w' => (∃ v, e = .returned v ∧ R v w') ∧ Below W.heap.size W w') :
    Calls Tryz.prog 63 #[.agg #[.int .i64 x.tag, vb, vl], .int .i64 t, .func (.func 64) #[] #[]] w fun e w' => AsGen (asE x t) R (.int .i64 0) e w' ∧ Below w.heap.size w w' := by
  obtain ⟨ab, cb, rfl⟩ := hp.2.1.shape x.b.length rfl
  obtain ⟨al, cl, rfl⟩ := hp.2.2.shape
  have hb0 := (Below.refl w.heap.size w).alloc (Nat.le_refl _) (.cells #[.int .i64 x.tag, .slice ab x.b.length cb, .slice al x.l.length cl] 45)
  have q0 := Trip.new w 45 (.int .i64 x.tag) (.slice ab x.b.length cb) (.slice al x.l.length cl)
  have hC := may_any _ x _ _ 8 _ (Nat.le_refl _) hw (by decide) (hk.alloc (.cells #[.int .i64 x.tag, .slice ab x.b.length cb, .slice al x.l.length cl] 45)) (hp.alloc (.cells #[.int .i64 x.tag, .slice ab x.b.length cb, .slice al x.l.length cl] 45))
  have hE1 := asE_ne (x := x) (t := t)
  have hE2 := asE_may (x := x) (t := t)
  obtain ⟨E, hE⟩ : ∃ E, asE x t = E := ⟨_, rfl⟩
  obtain ⟨T, hT⟩ : ∃ T, x.tag = T := ⟨_, rfl⟩
  obtain ⟨nb, hnb⟩ : ∃ n, x.b.length = n := ⟨_, rfl⟩
  obtain ⟨nl, hnl⟩ : ∃ n, x.l.length = n := ⟨_, rfl⟩
  rw [hT, hnb, hnl] at hb0 q0 hC
  rw [hT, hnb, hnl] at hG
  rw [hT] at hE1 hE2
  rw [hE] at hE1 hE2
  rw [hT, hnb, hnl, hE]
  have HG := Lib.hid hG; have HB0 := Lib.hid hb0; have HE1 := Lib.hid hE1; have HE2 := Lib.hid hE2; have Q0 := Lib.hid q0
  clear hE hT hnb hnl hp hk hG hb0 hE1 hE2 q0
  by_cases ht : T = t
  case neg =>
    clear hC
    go_enter Tryz.func63, Tryz.ntmps63
    go_wp2_with fail
    go_ret2
    rw [HE1.out ht]
    exact ⟨⟨_, rfl, rfl⟩, HB0.out⟩
  subst ht
  obtain ⟨M, hM⟩ : ∃ M, Dm.may 8 x = M := ⟨_, rfl⟩
  rw [hM] at hC
  have hE := HE2.out rfl
  rw [hM] at hE
  have HEE := Lib.hid hE
  clear hE
  have HM := Lib.hid hM
  clear hM
  cases M with
  | false =>
    go_enter Tryz.func63, Tryz.ntmps63
    go_wp2_with fail
    refine hC.mono ?_; rintro e w1 ⟨rfl, hb1⟩
    clear hC
    have hB1 := HB0.out.trans (hb1.mono HB0.out.size)
    go_wp2_with fail
    go_ret2
    rw [show E = 71 from HEE.out]
    exact ⟨⟨_, rfl, rfl⟩, hB1⟩
  | true =>
    go_enter Tryz.func63, Tryz.ntmps63
    go_wp2_with fail
    refine hC.mono ?_; rintro e w1 ⟨rfl, hb1⟩
    clear hC
    have hB1 := HB0.out.trans (hb1.mono HB0.out.size)
    have q1 := trip_stp Q0.out hb1
    have c0 := q1.cell0; have c1 := q1.cell1; have c2 := q1.cell2
    have hC2 := HG.out (by first | trivial | rfl) HM.out w1 hB1
    clear q1 hb1
    go_wp2_with fail
    refine hC2.mono ?_; rintro e w2 ⟨⟨v, rfl, hR⟩, hb2⟩
    clear hC2
    go_wp2_with fail
    go_ret2
    rw [show E = 0 from HEE.out]
    exact ⟨⟨_, rfl, hR⟩, hB1.trans (hb2.mono hB1.size)⟩

set_option maxRecDepth 100000 in
theorem AsInt_any (x : Dm.It) (vb vl : Value) (w : World) (hk : KindsAt w) (hp : ItP w vb vl x) (hw : Dm.wt x ≤ 100000000000) :
    Calls Tryz.prog 28 #[.agg #[.int .i64 x.tag, vb, vl]] w fun e w' => AsGen (asE x 2) (fun v _ => v = .int .i64 (numI x.b)) (.int .i64 0) e w' ∧ Below w.heap.size w w' := by
  obtain ⟨ab, cb, rfl⟩ := hp.2.1.shape x.b.length rfl
  obtain ⟨al, cl, rfl⟩ := hp.2.2.shape
  have hb0 := (Below.refl w.heap.size w).alloc (Nat.le_refl _) (.cells #[.int .i64 x.tag, .slice ab x.b.length cb, .slice al x.l.length cl] 45)
  have hp1 := hp.alloc (.cells #[.int .i64 x.tag, .slice ab x.b.length cb, .slice al x.l.length cl] 45)
  have hC := asInt_of x _ _ 2 _ (hk.alloc (.cells #[.int .i64 x.tag, .slice ab x.b.length cb, .slice al x.l.length cl] 45)) hp1 hw (fun v _ => v = .int .i64 (numI x.b))
    (fun ht hm W hW => (AsInt_in x _ _ W (hp1.below hW) (least_len (by have := may_b hm; rw [ht] at this; exact this)).1 (least_len (by have := may_b hm; rw [ht] at this; exact this)).2).mono fun e w' ⟨h, hb⟩ => ⟨⟨_, h, rfl⟩, hb⟩)
  have HB0 := Lib.hid hb0
  clear hb0 hp hp1 hk
  go_enter Tryz.func28, Tryz.ntmps28
  go_wp2_with fail
  refine hC.mono ?_; rintro e w1 ⟨⟨v, rfl, hR⟩, hb1⟩
  clear hC
  have HR := Lib.hid hR
  clear hR
  go_wp2_with fail
  go_ret2
  exact ⟨⟨v, rfl, HR.out⟩, HB0.out.trans (hb1.mono HB0.out.size)⟩

set_option maxRecDepth 100000 in
set_option maxHeartbeats 1000000 in
theorem asOct_of (x : Dm.It) (vb vl : Value) (t : Int) (w : World) (hk : KindsAt w) (hp : ItP w vb vl x) (hw : Dm.wt x ≤ 100000000000) (R : Value → World → Prop)
    (hG : x.tag = t → Dm.may 8 x = true → ∀ W, Below w.heap.size w W → Calls Tryz.prog 67 #[.agg #[.int .i64 x.tag, vb, vl]] W fun e w' => (∃ v, e = .returned v ∧ R v w') ∧ Below W.heap.size W w') :
    Calls Tryz.prog 66 #[.agg #[.int .i64 x.tag, vb, vl], .int .i64 t, .func (.func 67) #[] #[]] w fun e w' => AsGen (asE x t) R (.slice none 0 0) e w' ∧ Below w.heap.size w w' := by
  obtain ⟨ab, cb, rfl⟩ := hp.2.1.shape x.b.length rfl
  obtain ⟨al, cl, rfl⟩ := hp.2.2.shape
  have hb0 := (Below.refl w.heap.size w).alloc (Nat.le_refl _) (.cells #[.int .i64 x.tag, .slice ab x.b.length cb, .slice al x.l.length cl] 45)
  have q0 := Trip.new w 45 (.int .i64 x.tag) (.slice ab x.b.length cb) (.slice al x.l.length cl)
  have hC := may_any _ x _ _ 8 _ (Nat.le_refl _) hw (by decide) (hk.alloc (.cells #[.int .i64 x.tag, .slice ab x.b.length cb, .slice al x.l.length cl] 45)) (hp.alloc (.cells #[.int .i64 x.tag, .slice ab x.b.length cb, .slice al x.l.length cl] 45))
  have hE1 := asE_ne (x := x) (t := t)
  have hE2 := asE_may (x := x) (t := t)
  obtain ⟨E, hE⟩ : ∃ E, asE x t = E := ⟨_, rfl⟩
  obtain ⟨T, hT⟩ : ∃ T, x.tag = T := ⟨_, rfl⟩
  obtain ⟨nb, hnb⟩ : ∃ n, x.b.length = n := ⟨_, rfl⟩
  obtain ⟨nl, hnl⟩ : ∃ n, x.l.length = n := ⟨_, rfl⟩
  rw [hT, hnb, hnl] at hb0 q0 hC
  rw [hT, hnb, hnl] at hG
  rw [hT] at hE1 hE2
  rw [hE] at hE1 hE2
  rw [hT, hnb, hnl, hE]
  have HG := Lib.hid hG; have HB0 := Lib.hid hb0; have HE1 := Lib.hid hE1; have HE2 := Lib.hid hE2; have Q0 := Lib.hid q0
  clear hE hT hnb hnl hp hk hG hb0 hE1 hE2 q0
  by_cases ht : T = t
  case neg =>
    clear hC
    go_enter Tryz.func66, Tryz.ntmps66
    go_wp2_with fail
    go_ret2
    rw [HE1.out ht]
    exact ⟨⟨_, rfl, rfl⟩, HB0.out⟩
  subst ht
  obtain ⟨M, hM⟩ : ∃ M, Dm.may 8 x = M := ⟨_, rfl⟩
  rw [hM] at hC
  have hE := HE2.out rfl
  rw [hM] at hE
  have HEE := Lib.hid hE
  clear hE
  have HM := Lib.hid hM
  clear hM
  cases M with
  | false =>
    go_enter Tryz.func66, Tryz.ntmps66
    go_wp2_with fail
    refine hC.mono ?_; rintro e w1 ⟨rfl, hb1⟩
    clear hC
    have hB1 := HB0.out.trans (hb1.mono HB0.out.size)
    go_wp2_with fail
    go_ret2
    rw [show E = 71 from HEE.out]
    exact ⟨⟨_, rfl, rfl⟩, hB1⟩
  | true =>
    go_enter Tryz.func66, Tryz.ntmps66
    go_wp2_with fail
    refine hC.mono ?_; rintro e w1 ⟨rfl, hb1⟩
    clear hC
    have hB1 := HB0.out.trans (hb1.mono HB0.out.size)
    have q1 := trip_stp Q0.out hb1
    have c0 := q1.cell0; have c1 := q1.cell1; have c2 := q1.cell2
    have hC2 := HG.out (by first | trivial | rfl) HM.out w1 hB1
    clear q1 hb1
    go_wp2_with fail
    refine hC2.mono ?_; rintro e w2 ⟨⟨v, rfl, hR⟩, hb2⟩
    clear hC2
    go_wp2_with fail
    go_ret2
    rw [show E = 0 from HEE.out]
    exact ⟨⟨_, rfl, hR⟩, hB1.trans (hb2.mono hB1.size)⟩

set_option maxRecDepth 100000 in
theorem AsOct_any (x : Dm.It) (vb vl : Value) (w : World) (hk : KindsAt w) (hp : ItP w vb vl x) (hw : Dm.wt x ≤ 100000000000) (hlen : x.b.length ≤ 10000000) :
    Calls Tryz.prog 31 #[.agg #[.int .i64 x.tag, vb, vl]] w fun e w' => AsGen (asE x 4) (fun v w' => OwnB w' w.heap.size v x.b) (.slice none 0 0) e w' ∧ Below w.heap.size w w' := by
  obtain ⟨ab, cb, rfl⟩ := hp.2.1.shape x.b.length rfl
  obtain ⟨al, cl, rfl⟩ := hp.2.2.shape
  have hb0 := (Below.refl w.heap.size w).alloc (Nat.le_refl _) (.cells #[.int .i64 x.tag, .slice ab x.b.length cb, .slice al x.l.length cl] 45)
  have hp1 := hp.alloc (.cells #[.int .i64 x.tag, .slice ab x.b.length cb, .slice al x.l.length cl] 45)
  have hC := asOct_of x _ _ 4 _ (hk.alloc (.cells #[.int .i64 x.tag, .slice ab x.b.length cb, .slice al x.l.length cl] 45)) hp1 hw (fun v w' => OwnB w' w.heap.size v x.b)
    (fun ht hm W hW => (AsOct_in x _ _ W (hp1.below hW) hlen).mono fun e w' ⟨⟨r, h, own⟩, hb⟩ => ⟨⟨r, h, owns_base own (Nat.le_trans (by simp) hW.size)⟩, hb⟩)
  have HB0 := Lib.hid hb0
  clear hb0 hp hp1 hk
  go_enter Tryz.func31, Tryz.ntmps31
  go_wp2_with fail
  refine hC.mono ?_; rintro e w1 ⟨⟨v, rfl, hR⟩, hb1⟩
  clear hC
  have HR := Lib.hid hR
  clear hR
  go_wp2_with fail
  go_ret2
  exact ⟨⟨v, rfl, HR.out⟩, HB0.out.trans (hb1.mono HB0.out.size)⟩

set_option maxRecDepth 100000 in
set_option maxHeartbeats 1000000 in
theorem asBool_of (x : Dm.It) (vb vl : Value) (t : Int) (w : World) (hk : KindsAt w) (hp : ItP w vb vl x) (hw : Dm.wt x ≤ 100000000000) (R : Value → World → Prop)
    (hG : x.tag = t → Dm.may 8 x = true → ∀ W, Below w.heap.size w W → Calls Tryz.prog 76 #[.agg #[.int .i64 x.tag, vb, vl]] W fun e w' => (∃ v, e = .returned v ∧ R v w') ∧ Below W.heap.size W w') :
    Calls Tryz.prog 75 #[.agg #[.int .i64 x.tag, vb, vl], .int .i64 t, .func (.func 76) #[] #[]] w fun e w' => AsGen (asE x t) R (.bool false) e w' ∧ Below w.heap.size w w' := by
  obtain ⟨ab, cb, rfl⟩ := hp.2.1.shape x.b.length rfl
  obtain ⟨al, cl, rfl⟩ := hp.2.2.shape
  have hb0 := (Below.refl w.heap.size w).alloc (Nat.le_refl _) (.cells #[.int .i64 x.tag, .slice ab x.b.length cb, .slice al x.l.length cl] 45)
  have q0 := Trip.new w 45 (.int .i64 x.tag) (.slice ab x.b.length cb) (.slice al x.l.length cl)
  have hC := may_any _ x _ _ 8 _ (Nat.le_refl _) hw (by decide) (hk.alloc (.cells #[.int .i64 x.tag, .slice ab x.b.length cb, .slice al x.l.length cl] 45)) (hp.alloc (.cells #[.int .i64 x.tag, .slice ab x.b.length cb, .slice al x.l.length cl] 45))
  have hE1 := asE_ne (x := x) (t := t)
  have hE2 := asE_may (x := x) (t := t)
  obtain ⟨E, hE⟩ : ∃ E, asE x t = E := ⟨_, rfl⟩
  obtain ⟨T, hT⟩ : ∃ T, x.tag = T := ⟨_, rfl⟩
  obtain ⟨nb, hnb⟩ : ∃ n, x.b.length = n := ⟨_, rfl⟩
  obtain ⟨nl, hnl⟩ : ∃ n, x.l.length = n := ⟨_, rfl⟩
  rw [hT, hnb, hnl] at hb0 q0 hC
  rw [hT, hnb, hnl] at hG
  rw [hT] at hE1 hE2
  rw [hE] at hE1 hE2
  rw [hT, hnb, hnl, hE]
  have HG := Lib.hid hG; have HB0 := Lib.hid hb0; have HE1 := Lib.hid hE1; have HE2 := Lib.hid hE2; have Q0 := Lib.hid q0
  clear hE hT hnb hnl hp hk hG hb0 hE1 hE2 q0
  by_cases ht : T = t
  case neg =>
    clear hC
    go_enter Tryz.func75, Tryz.ntmps75
    go_wp2_with fail
    go_ret2
    rw [HE1.out ht]
    exact ⟨⟨_, rfl, rfl⟩, HB0.out⟩
  subst ht
  obtain ⟨M, hM⟩ : ∃ M, Dm.may 8 x = M := ⟨_, rfl⟩
  rw [hM] at hC
  have hE := HE2.out rfl
  rw [hM] at hE
  have HEE := Lib.hid hE
  clear hE
  have HM := Lib.hid hM
  clear hM
  cases M with
  | false =>
    go_enter Tryz.func75, Tryz.ntmps75
    go_wp2_with fail
    refine hC.mono ?_; rintro e w1 ⟨rfl, hb1⟩
    clear hC
    have hB1 := HB0.out.trans (hb1.mono HB0.out.size)
    go_wp2_with fail
    go_ret2
    rw [show E = 71 from HEE.out]
    exact ⟨⟨_, rfl, rfl⟩, hB1⟩
  | true =>
    go_enter Tryz.func75, Tryz.ntmps75
    go_wp2_with fail
    refine hC.mono ?_; rintro e w1 ⟨rfl, hb1⟩
    clear hC
    have hB1 := HB0.out.trans (hb1.mono HB0.out.size)
    have q1 := trip_stp Q0.out hb1
    have c0 := q1.cell0; have c1 := q1.cell1; have c2 := q1.cell2
    have hC2 := HG.out (by first | trivial | rfl) HM.out w1 hB1
    clear q1 hb1
    go_wp2_with fail
    refine hC2.mono ?_; rintro e w2 ⟨⟨v, rfl, hR⟩, hb2⟩
    clear hC2
    go_wp2_with fail
    go_ret2
    rw [show E = 0 from HEE.out]
    exact ⟨⟨_, rfl, hR⟩, hB1.trans (hb2.mono hB1.size)⟩

set_option maxRecDepth 100000 in
theorem AsBool_any (x : Dm.It) (vb vl : Value) (w : World) (hk : KindsAt w) (hp : ItP w vb vl x) (hw : Dm.wt x ≤ 100000000000) :
    Calls Tryz.prog 44 #[.agg #[.int .i64 x.tag, vb, vl]] w fun e w' => AsGen (asE x 1) (fun v _ => v = .bool (decide (x.b = [255]))) (.bool false) e w' ∧ Below w.heap.size w w' := by
  obtain ⟨ab, cb, rfl⟩ := hp.2.1.shape x.b.length rfl
  obtain ⟨al, cl, rfl⟩ := hp.2.2.shape
  have hb0 := (Below.refl w.heap.size w).alloc (Nat.le_refl _) (.cells #[.int .i64 x.tag, .slice ab x.b.length cb, .slice al x.l.length cl] 45)
  have hp1 := hp.alloc (.cells #[.int .i64 x.tag, .slice ab x.b.length cb, .slice al x.l.length cl] 45)
  have hC := asBool_of x _ _ 1 _ (hk.alloc (.cells #[.int .i64 x.tag, .slice ab x.b.length cb, .slice al x.l.length cl] 45)) hp1 hw (fun v _ => v = .bool (decide (x.b = [255])))
    (fun ht hm W hW => (AsBool_in x _ _ W (hp1.below hW) (by have := may_b hm; rw [ht] at this; simpa [Dm.mayB] using this)).mono fun e w' ⟨h, hb⟩ => ⟨⟨_, h, rfl⟩, hb⟩)
  have HB0 := Lib.hid hb0
  clear hb0 hp hp1 hk
  go_enter Tryz.func44, Tryz.ntmps44
  go_wp2_with fail
  refine hC.mono ?_; rintro e w1 ⟨⟨v, rfl, hR⟩, hb1⟩
  clear hC
  have HR := Lib.hid hR
  clear hR
  go_wp2_with fail
  go_ret2
  exact ⟨⟨v, rfl, HR.out⟩, HB0.out.trans (hb1.mono HB0.out.size)⟩

set_option maxRecDepth 100000 in
set_option maxHeartbeats 1000000 in
theorem asSeq_of (x : Dm.It) (vb vl : Value) (t : Int) (w : World) (hk : KindsAt w) (hp : ItP w vb vl x) (hw : Dm.wt x ≤ 100000000000) (R : Value → World → Prop)
    (hG : x.tag = t → Dm.may 8 x = true → ∀ W, Below w.heap.size w W → Calls Tryz.prog 89 #[.agg #[.int .i64 x.tag, vb, vl]] W fun e w' => (∃ v, e = .returned v ∧ R v w') ∧ Below W.heap.size W w') :
    Calls Tryz.prog 88 #[.agg #[.int .i64 x.tag, vb, vl], .int .i64 t, .func (.func 89) #[] #[]] w fun e w' => AsGen (asE x t) R (.slice none 0 0) e w' ∧ Below w.heap.size w w' := by
  obtain ⟨ab, cb, rfl⟩ := hp.2.1.shape x.b.length rfl
  obtain ⟨al, cl, rfl⟩ := hp.2.2.shape
  have hb0 := (Below.refl w.heap.size w).alloc (Nat.le_refl _) (.cells #[.int .i64 x.tag, .slice ab x.b.length cb, .slice al x.l.length cl] 45)
  have q0 := Trip.new w 45 (.int .i64 x.tag) (.slice ab x.b.length cb) (.slice al x.l.length cl)
  have hC := may_any _ x _ _ 8 _ (Nat.le_refl _) hw (by decide) (hk.alloc (.cells #[.int .i64 x.tag, .slice ab x.b.length cb, .slice al x.l.length cl] 45)) (hp.alloc (.cells #[.int .i64 x.tag, .slice ab x.b.length cb, .slice al x.l.length cl] 45))
  have hE1 := asE_ne (x := x) (t := t)
  have hE2 := asE_may (x := x) (t := t)
  obtain ⟨E, hE⟩ : ∃ E, asE x t = E := ⟨_, rfl⟩
  obtain ⟨T, hT⟩ : ∃ T, x.tag = T := ⟨_, rfl⟩
  obtain ⟨nb, hnb⟩ : ∃ n, x.b.length = n := ⟨_, rfl⟩
  obtain ⟨nl, hnl⟩ : ∃ n, x.l.length = n := ⟨_, rfl⟩
  rw [hT, hnb, hnl] at hb0 q0 hC
  rw [hT, hnb, hnl] at hG
  rw [hT] at hE1 hE2
  rw [hE] at hE1 hE2
  rw [hT, hnb, hnl, hE]
  have HG := Lib.hid hG; have HB0 := Lib.hid hb0; have HE1 := Lib.hid hE1; have HE2 := Lib.hid hE2; have Q0 := Lib.hid q0
  clear hE hT hnb hnl hp hk hG hb0 hE1 hE2 q0
  by_cases ht : T = t
  case neg =>
    clear hC
    go_enter Tryz.func88, Tryz.ntmps88
    go_wp2_with fail
    go_ret2
    rw [HE1.out ht]
    exact ⟨⟨_, rfl, rfl⟩, HB0.out⟩
  subst ht
  obtain ⟨M, hM⟩ : ∃ M, Dm.may 8 x = M := ⟨_, rfl⟩
  rw [hM] at hC
  have hE := HE2.out rfl
  rw [hM] at hE
  have HEE := Lib.hid hE
  clear hE
  have HM := Lib.hid hM
  clear hM
  cases M with
  | false =>
    go_enter Tryz.func88, Tryz.ntmps88
    go_wp2_with fail
    refine hC.mono ?_; rintro e w1 ⟨rfl, hb1⟩
    clear hC
    have hB1 := HB0.out.trans (hb1.mono HB0.out.size)
    go_wp2_with fail
    go_ret2
    rw [show E = 71 from HEE.out]
    exact ⟨⟨_, rfl, rfl⟩, hB1⟩
  | true =>
    go_enter Tryz.func88, Tryz.ntmps88
    go_wp2_with fail
    refine hC.mono ?_; rintro e w1 ⟨rfl, hb1⟩
    clear hC
    have hB1 := HB0.out.trans (hb1.mono HB0.out.size)
    have q1 := trip_stp Q0.out hb1
    have c0 := q1.cell0; have c1 := q1.cell1; have c2 := q1.cell2
    have hC2 := HG.out (by first | trivial | rfl) HM.out w1 hB1
    clear q1 hb1
    go_wp2_with fail
    refine hC2.mono ?_; rintro e w2 ⟨⟨v, rfl, hR⟩, hb2⟩
    clear hC2
    go_wp2_with fail
    go_ret2
    rw [show E = 0 from HEE.out]
    exact ⟨⟨_, rfl, hR⟩, hB1.trans (hb2.mono hB1.size)⟩

set_option maxRecDepth 100000 in
theorem AsSeq_any (x : Dm.It) (vb vl : Value) (w : World) (hk : KindsAt w) (hp : ItP w vb vl x) (hw : Dm.wt x ≤ 100000000000) (hlen : x.l.length ≤ 1000000) :
    Calls Tryz.prog 62 #[.agg #[.int .i64 x.tag, vb, vl]] w fun e w' => AsGen (asE x 48) (fun v w' => ItsV w' v x.l) (.slice none 0 0) e w' ∧ Below w.heap.size w w' := by
  obtain ⟨ab, cb, rfl⟩ := hp.2.1.shape x.b.length rfl
  obtain ⟨al, cl, rfl⟩ := hp.2.2.shape
  have hb0 := (Below.refl w.heap.size w).alloc (Nat.le_refl _) (.cells #[.int .i64 x.tag, .slice ab x.b.length cb, .slice al x.l.length cl] 45)
  have hp1 := hp.alloc (.cells #[.int .i64 x.tag, .slice ab x.b.length cb, .slice al x.l.length cl] 45)
  have hC := asSeq_of x _ _ 48 _ (hk.alloc (.cells #[.int .i64 x.tag, .slice ab x.b.length cb, .slice al x.l.length cl] 45)) hp1 hw (fun v w' => ItsV w' v x.l)
    (fun ht hm W hW => (AsSeq_in x _ _ W (hp1.below hW) hlen).mono fun e w' ⟨⟨r, h, hi⟩, hb⟩ => ⟨⟨r, h, hi⟩, hb⟩)
  have HB0 := Lib.hid hb0
  clear hb0 hp hp1 hk
  go_enter Tryz.func62, Tryz.ntmps62
  go_wp2_with fail
  refine hC.mono ?_; rintro e w1 ⟨⟨v, rfl, hR⟩, hb1⟩
  clear hC
  have HR := Lib.hid hR
  clear hR
  go_wp2_with fail
  go_ret2
  exact ⟨⟨v, rfl, HR.out⟩, HB0.out.trans (hb1.mono HB0.out.size)⟩
end Go.Proofs.YtfdchdnkblmijaaGreatDoor
end

section
namespace Go.Proofs.YtfdchdnkblmijaaGreatDoor
open Go.RowKit

theorem get_any : ∀ d, d ≤ 8 → GetOn d
  | 0, h => get_of 0 h (fun d' e => by omega)
  | d + 1, h => get_of (d + 1) h (fun d' e => by obtain rfl : d' = d := (by omega); exact get_any d' (by omega))
/-- The item that stands at a place, and where it ends. -/
def getAt (l : List Int) (p : Int) : Except Int (Dm.It × Nat) :=
  if p < 0 ∨ (l.length : Int) < p then .error 1 else
  match Dm.get 8 (l.drop p.toNat) with
  | .error e => .error e
  | .ok (x, r) => .ok (x, l.length - r.length)
/-- What Get hands back. -/
def GotAt (n : Nat) (w' : World) (e : Ending) : Except Int (Dm.It × Nat) → Prop
  | .error c => e = .returned (.tuple #[noV, .int .i64 0, .int .i64 c])
  | .ok (x, m) => ∃ ab cb al cl, e = .returned (.tuple #[.agg #[.int .i64 x.tag, .slice ab x.b.length cb, .slice al x.l.length cl], .int .i64 m, .int .i64 0]) ∧ Own n none w' (.slice ab x.b.length cb) (.slice al x.l.length cl) x

set_option maxRecDepth 100000 in
set_option maxHeartbeats 2000000 in
theorem Get_any (v : Value) (l : List Int) (p : Int) (w : World) (hk : KindsAt w) (h : Row .u8 w v l) (hl : l.length ≤ 1000000) :
    Calls Tryz.prog 61 #[v, .int .i64 p] w fun e w' => GotAt w.heap.size w' e (getAt l p) ∧ Below w.heap.size w w' := by
  obtain ⟨a, c, rfl⟩ := h.shape l.length rfl
  have hlc : l.length ≤ c := by obtain ⟨_, _, e', hc, _⟩ := h; cases e'; exact hc
  have HA : Hid (a = none → c = 0) := Lib.hid (by obtain ⟨_, _, e', hc, _, h0, _⟩ := h; cases e'; exact h0)
  obtain ⟨R, hR⟩ : ∃ R, getAt l p = R := ⟨_, rfl⟩
  rw [hR]
  obtain ⟨B, hB⟩ : ∃ B, w.heap.size = B := ⟨_, rfl⟩
  rw [hB]
  have q0 := Trip.new w 45 (.int .i64 0) (.slice none 0 0) (.slice none 0 0)
  have hb0 := (Below.refl w.heap.size w).alloc (Nat.le_refl _) (.cells #[.int .i64 0, .slice none 0 0, .slice none 0 0] 45)
  obtain ⟨W, hW⟩ : ∃ W, w.alloc (.cells #[.int .i64 0, .slice none 0 0, .slice none 0 0] 45) = W := ⟨_, rfl⟩
  have hWs : W.heap.size = B + 1 := by rw [← hW, World.size_alloc, hB]
  rw [hW] at q0 hb0
  have k0 := hk.below hb0; have r0 := h.below hb0
  rw [hB] at q0 hb0
  obtain ⟨n, hn⟩ : ∃ n, l.length = n := ⟨_, rfl⟩
  rw [hn] at hl hlc r0 ⊢
  have HN := Lib.hid hn; have HR := Lib.hid hR; have HW := Lib.hid hW; have HB := Lib.hid hB; have K0 := Lib.hid k0; have R0 := Lib.hid r0; have HB0 := Lib.hid hb0; have Q0 := Lib.hid q0; have HWS := Lib.hid hWs
  clear hn hR hW hB k0 r0 hb0 q0 hk h hWs
  by_cases hp0 : p < 0
  · have hr : R = .error 1 := by rw [← HR.out, getAt, if_pos (.inl hp0)]
    have HE := Lib.hid hr
    clear hr
    go_enter Tryz.func61, Tryz.ntmps61
    go_wp2_with fail
    rw [HW.out, HB.out]
    refine bodyPost_ret (item_ret rfl rfl Q0.out) rfl ?_
    exact ⟨by rw [HE.out]; rfl, HB0.out⟩
  by_cases hpn : (n : Int) < p
  · have hr : R = .error 1 := by rw [← HR.out, getAt, if_pos (.inr (by rw [HN.out]; exact hpn))]
    have HE := Lib.hid hr
    clear hr
    go_enter Tryz.func61, Tryz.ntmps61
    go_wp2_with fail
    rw [HW.out, HB.out]
    refine bodyPost_ret (item_ret rfl rfl Q0.out) rfl ?_
    exact ⟨by rw [HE.out]; rfl, HB0.out⟩
  obtain ⟨k, rfl⟩ := Int.eq_ofNat_of_zero_le (show 0 ≤ p by omega)
  have hkn : k ≤ n := by omega
  have k0 : (0 : Int) ≤ (k : Int) := by omega
  have hR2 : R = match Dm.get 8 (l.drop k) with | .error e => .error e | .ok (x, r) => .ok (x, n - r.length) := by
    rw [← HR.out, getAt, if_neg (by rw [HN.out]; omega), HN.out]; rfl
  have HR2 := Lib.hid hR2
  clear hR2
  have fin : ∀ a' c', Row .u8 W (.slice a' (n - k) c') (l.drop k) → Calls Tryz.prog 87 #[.slice a' (n - k) c', .int .i64 8] W fun e w' => Gotten (B + 1) (.slice a' (n - k) c') (l.drop k) w' e (Dm.get 8 (l.drop k)) ∧ Below W.heap.size W w' := fun a' c' hr => by
    have := get_any 8 (Nat.le_refl _) _ (l.drop k) W K0.out hr (by rw [List.length_drop, HN.out]; omega)
    rw [HWS.out] at this ⊢; exact this
  have FIN := Lib.hid fin
  have hless : ∀ x r, Dm.get 8 (l.drop k) = .ok (x, r) → r.length ≤ n := fun x r h => by
    have := get_less _ _ _ _ h
    rw [List.length_drop, HN.out] at this; omega
  have HLess := Lib.hid hless
  clear fin hless
  obtain ⟨X, hX⟩ : ∃ X, Dm.get 8 (l.drop k) = X := ⟨_, rfl⟩
  have HX := Lib.hid hX
  clear hX
  by_cases hck : c = k
  · have rc := Row.cut_all R0.out k (by rw [HN.out]; exact hkn) (show c - k = 0 by omega)
    have hC := FIN.out _ _ rc
    have e0 : n - k = 0 := by omega
    obtain rfl : n = k := by omega
    subst hck
    rw [HX.out, Nat.sub_self] at hC
    clear rc e0
    go_enter Tryz.func61, Tryz.ntmps61
    go_wp2_with fail
    rw [HW.out]
    (try rw [HB.out])
    (try go_wp2_with fail)
    refine hC.mono ?_; rintro e w1 ⟨hG, hb1⟩
    clear hC
    have q1 := trip_stp Q0.out hb1
    have hB1 := HB0.out.trans (hb1.mono (by rw [HWS.out]; omega))
    have Q1 := Lib.hid q1; have HB1 := Lib.hid hB1
    clear hb1 hB1
    have f0 := q1.free 0; have f1 := q1.free 1; have f2 := q1.free 2; have x0 := q1.cell0; have x1 := q1.cell1; have x2 := q1.cell2; have xl := q1.lt
    clear q1
    match X, HX, hG with
    | .error cc, HX, hG =>
      have hG' : e = .returned (.tuple #[noV, .slice none 0 0, .int .i64 cc]) := hG
      subst hG'
      have hr : R = .error cc := by rw [HR2.out, HX.out]
      have HE := Lib.hid hr
      have hcc := get_fail HX.out
      clear hr hG
      rcases hcc with rfl | rfl
      all_goals
        go_wp2_with fail
        refine bodyPost_ret (item_ret rfl rfl (trip3 (trip3 Q1.out _ _ _) _ _ _)) rfl ?_
        exact ⟨by rw [HE.out]; rfl, bel3' (bel3' HB1.out (Nat.le_refl _) _ _ _) (Nat.le_refl _) _ _ _⟩
    | .ok (x, r), HX, hG =>
      obtain ⟨ab, cb, al, cl, a9, c9, rfl, hown, hrest⟩ := hG
      have hr : R = .ok (x, c - r.length) := by rw [HR2.out, HX.out]
      have hle := HLess.out x r HX.out
      have HE := Lib.hid hr; have HO := Lib.hid hown
      have hsub : IntKind.i64.wrap ((c : Int) - (r.length : Int)) = ((c - r.length : Nat) : Int) := (IntWalk.i64_in _ (by omega)).trans (by omega)
      clear hr hown hrest
      go_wp2_with fail
      refine bodyPost_ret (item_ret rfl rfl (trip3 (trip3 Q1.out _ _ _) _ _ _)) rfl ?_
      have hb5 := bel3' (bel3' HB1.out (Nat.le_refl B) (.int .i64 x.tag) (.slice ab x.b.length cb) (.slice al x.l.length cl)) (Nat.le_refl B) (.int .i64 x.tag) (.slice ab x.b.length cb) (.slice al x.l.length cl)
      rw [HE.out]
      refine ⟨⟨ab, cb, al, cl, rfl, (HO.out.kept ⟨?_, fun g hg _ _ => ?_⟩).mono (Nat.le_succ B)⟩, hb5⟩
      · simp
      · have far : ∀ (V : World) (i : Nat) (u : Value), (V.setCell ⟨B, i, none⟩ u).heap[g]? = V.heap[g]? := fun V i u => Below.heap_setCell V ⟨B, i, none⟩ u g (show g ≠ B by omega)
        rw [far, far, far, far, far, far]
  have hck2 : k < c := by omega
  have rc := Row.cut R0.out k (by rw [HN.out]; exact hkn) hck2
  obtain ⟨ad, rfl⟩ : ∃ ad, a = some ad := by
    cases a with
    | none => have := HA.out rfl; omega
    | some ad => exact ⟨ad, rfl⟩
  rw [Option.map_some] at rc

  have hC := FIN.out _ _ rc
  rw [HX.out] at hC
  clear rc
  go_enter Tryz.func61, Tryz.ntmps61
  go_wp2_with fail
  rw [HW.out]
  (try rw [HB.out])
  (try go_wp2_with fail)
  refine hC.mono ?_; rintro e w1 ⟨hG, hb1⟩
  clear hC
  have q1 := trip_stp Q0.out hb1
  have hB1 := HB0.out.trans (hb1.mono (by rw [HWS.out]; omega))
  have Q1 := Lib.hid q1; have HB1 := Lib.hid hB1
  clear hb1 hB1
  have f0 := q1.free 0; have f1 := q1.free 1; have f2 := q1.free 2; have x0 := q1.cell0; have x1 := q1.cell1; have x2 := q1.cell2; have xl := q1.lt
  clear q1
  match X, HX, hG with
  | .error cc, HX, hG =>
    have hG' : e = .returned (.tuple #[noV, .slice none 0 0, .int .i64 cc]) := hG
    subst hG'
    have hr : R = .error cc := by rw [HR2.out, HX.out]
    have HE := Lib.hid hr
    have hcc := get_fail HX.out
    clear hr hG
    rcases hcc with rfl | rfl
    all_goals
      go_wp2_with fail
      refine bodyPost_ret (item_ret rfl rfl (trip3 (trip3 Q1.out _ _ _) _ _ _)) rfl ?_
      exact ⟨by rw [HE.out]; rfl, bel3' (bel3' HB1.out (Nat.le_refl _) _ _ _) (Nat.le_refl _) _ _ _⟩
  | .ok (x, r), HX, hG =>
    obtain ⟨ab, cb, al, cl, a9, c9, rfl, hown, hrest⟩ := hG
    have hr : R = .ok (x, n - r.length) := by rw [HR2.out, HX.out]
    have hle := HLess.out x r HX.out
    have HE := Lib.hid hr; have HO := Lib.hid hown
    have hsub : IntKind.i64.wrap ((n : Int) - (r.length : Int)) = ((n - r.length : Nat) : Int) := (IntWalk.i64_in _ (by omega)).trans (by omega)
    clear hr hown hrest
    go_wp2_with fail
    refine bodyPost_ret (item_ret rfl rfl (trip3 (trip3 Q1.out _ _ _) _ _ _)) rfl ?_
    have hb5 := bel3' (bel3' HB1.out (Nat.le_refl B) (.int .i64 x.tag) (.slice ab x.b.length cb) (.slice al x.l.length cl)) (Nat.le_refl B) (.int .i64 x.tag) (.slice ab x.b.length cb) (.slice al x.l.length cl)
    rw [HE.out]
    refine ⟨⟨ab, cb, al, cl, rfl, (HO.out.kept ⟨?_, fun g hg _ _ => ?_⟩).mono (Nat.le_succ B)⟩, hb5⟩
    · simp
    · have far : ∀ (V : World) (i : Nat) (u : Value), (V.setCell ⟨B, i, none⟩ u).heap[g]? = V.heap[g]? := fun V i u => Below.heap_setCell V ⟨B, i, none⟩ u g (show g ≠ B by omega)
      rw [far, far, far, far, far, far]
end Go.Proofs.YtfdchdnkblmijaaGreatDoor
end

section
namespace Go.Proofs.YtfdchdnkblmijaaGreatDoor

/-- The lowest j bytes. -/
def lowB (n : Int) (j : Nat) : List Int := (be8 n).drop (8 - j)
def restI (n : Int) (j : Nat) : Int := n / 2 ^ (8 * j)
theorem be8_len (n : Int) : (be8 n).length = 8 := rfl
theorem lowB_len (n : Int) {j : Nat} (hj : j ≤ 8) : (lowB n j).length = j := by unfold lowB; rw [List.length_drop, be8_len]; omega
theorem lowB_all (n : Int) : lowB n 8 = be8 n := rfl
theorem lowB_succ (n : Int) {j : Nat} (hj : j < 8) : lowB n (j + 1) = (restI n j % 256) :: lowB n j := by
  unfold lowB restI
  rw [List.drop_eq_getElem_cons (by rw [be8_len]; omega), show 8 - (j + 1) + 1 = 8 - j by omega]
  congr 1
  have h := be8_at n (8 - (j + 1)) (by omega)
  rw [List.getElem?_eq_getElem (by rw [be8_len]; omega)] at h
  rw [show 56 - 8 * (8 - (j + 1)) = 8 * j by omega] at h
  exact h
theorem lowB_byte (n : Int) (j : Nat) : ∀ x ∈ lowB n j, byte x := by
  intro x hx
  have := List.mem_of_mem_drop hx
  simp only [be8, List.mem_map] at this
  obtain ⟨i, _, rfl⟩ := this
  unfold byte; omega
theorem restI_succ (n : Int) (j : Nat) : restI n (j + 1) = restI n j / 256 := by
  unfold restI
  rw [Int.ediv_ediv_of_nonneg (by exact Int.pow_nonneg (by decide)), show 8 * (j + 1) = 8 * j + 8 by omega, Int.pow_add]; rfl
theorem restI_zero (n : Int) : restI n 0 = n := by unfold restI; simp
theorem restI_eight (n : Int) (h1 : -9223372036854775808 ≤ n) (h2 : n ≤ 9223372036854775807) : restI n 8 = if n < 0 then -1 else 0 := by
  unfold restI
  rw [show (2 : Int) ^ (8 * 8) = 18446744073709551616 by decide]
  split <;> omega
/-- The rest is but the sign of what stands below. -/
def stopI (n : Int) (j : Nat) : Prop := restI n j = if (lowB n j).headD 0 < 128 then 0 else -1
theorem head_succ (n : Int) {j : Nat} (hj : j < 8) : (lowB n (j + 1)).headD 0 = restI n j % 256 := by rw [lowB_succ n hj]; rfl
theorem least_low (n : Int) {j : Nat} (h0 : 1 ≤ j) (hj : j < 8) : Dm.least (lowB n (j + 1)) = !decide (restI n j % 256 = if (lowB n j).headD 0 < 128 then 0 else 255) := by
  rw [lowB_succ n hj]
  have hl := lowB_len n (show j ≤ 8 by omega)
  cases hb : lowB n j with
  | nil => rw [hb] at hl; simp at hl; omega
  | cons y r =>
    rw [hb] at hl
    have : r.length ≤ 6 := by simp at hl; omega
    show (decide (r.length ≤ 6) && !decide (restI n j % 256 = if y < 128 then 0 else 255)) = _
    rw [decide_eq_true this, Bool.true_and]; rfl
theorem stop_step (n : Int) {j : Nat} (h0 : 1 ≤ j) (hj : j < 8) : stopI n j ↔ (Dm.least (lowB n (j + 1)) = false ∧ stopI n (j + 1)) := by
  rw [least_low n h0 hj]
  unfold stopI
  rw [head_succ n hj, restI_succ]
  have e : (!decide (restI n j % 256 = if (lowB n j).headD 0 < 128 then 0 else 255)) = false ↔ restI n j % 256 = if (lowB n j).headD 0 < 128 then 0 else 255 := by simp
  rw [e]
  generalize restI n j = q
  generalize (lowB n j).headD 0 = y
  by_cases hy : y < 128
  · rw [if_pos hy, if_pos hy]
    constructor
    · intro h; subst h; exact ⟨by decide, by decide⟩
    · rintro ⟨h1, h2⟩
      rw [h1, if_pos (by decide)] at h2
      omega
  · rw [if_neg hy, if_neg hy]
    constructor
    · intro h; subst h; exact ⟨by decide, by decide⟩
    · rintro ⟨h1, h2⟩
      rw [h1, if_neg (by decide)] at h2
      omega
theorem trim_low (n : Int) {j : Nat} (h0 : 1 ≤ j) (hj : j < 8) (h : Dm.least (lowB n (j + 1)) = false) : trimI (lowB n (j + 1)) = trimI (lowB n j) := by
  rw [trimI_step (by rw [lowB_len n (by omega)]; omega) h, lowB_succ n hj, List.drop_one, List.tail_cons]
theorem trim_down (n : Int) : ∀ (d j : Nat), d + j = 8 → 1 ≤ j → stopI n j → trimI (be8 n) = trimI (lowB n j)
  | 0, j, h, _, _ => by rw [show j = 8 by omega]; rfl
  | d + 1, j, h, h0, hs => by
    obtain ⟨h1, h2⟩ := (stop_step n h0 (by omega)).1 hs
    rw [trim_down n d (j + 1) (by omega) (by omega) h2, trim_low n h0 (by omega) h1]
theorem intB_low (n : Int) {j : Nat} (h0 : 1 ≤ j) (hj : j ≤ 8) (hs : stopI n j) (hn : j = 1 ∨ ¬ stopI n (j - 1)) : intB n = lowB n j := by
  unfold intB
  rw [trim_down n (8 - j) j (by omega) h0 hs]
  rcases hn with rfl | hn
  · exact trimI_stop (.inl (by rw [lowB_len n (by omega)]; exact Nat.le_refl _))
  · refine trimI_stop ?_
    by_cases h1 : j = 1
    · subst h1; exact .inl (by rw [lowB_len n (by omega)]; exact Nat.le_refl _)
    · refine .inr ?_
      obtain ⟨i, rfl⟩ : ∃ i, j = i + 1 := ⟨j - 1, by omega⟩
      cases hl : Dm.least (lowB n (i + 1)) with
      | true => rfl
      | false => exact absurd ((stop_step n (by omega) (by omega)).2 ⟨hl, hs⟩) hn
theorem stop_eight (n : Int) (h1 : -9223372036854775808 ≤ n) (h2 : n ≤ 9223372036854775807) : stopI n 8 := by
  unfold stopI
  rw [restI_eight n h1 h2, head_succ n (j := 7) (by omega)]
  have e : restI n 7 = n / 72057594037927936 := by unfold restI; rw [show (2 : Int) ^ (8 * 7) = 72057594037927936 by decide]
  rw [e]
  by_cases hn : n < 0
  · rw [if_pos hn, if_neg (by omega)]
  · rw [if_neg hn, if_pos (by omega)]
/-- It always stops somewhere. -/
theorem intB_some (n : Int) (h1 : -9223372036854775808 ≤ n) (h2 : n ≤ 9223372036854775807) : ∃ j, 1 ≤ j ∧ j ≤ 8 ∧ stopI n j ∧ (j = 1 ∨ ¬ stopI n (j - 1)) ∧ intB n = lowB n j := by
  have key : ∀ d j, d + j = 8 → 1 ≤ j → (j = 1 ∨ ¬ stopI n (j - 1)) → ∃ j, 1 ≤ j ∧ j ≤ 8 ∧ stopI n j ∧ (j = 1 ∨ ¬ stopI n (j - 1)) := by
    intro d
    induction d with
    | zero => intro j h h0 hn; exact ⟨j, h0, by omega, by rw [show j = 8 by omega]; exact stop_eight n h1 h2, hn⟩
    | succ d ih =>
      intro j h h0 hn
      by_cases hs : stopI n j
      · exact ⟨j, h0, by omega, hs, hn⟩
      · exact ih (j + 1) (by omega) (by omega) (.inr hs)
  obtain ⟨j, a, b, c, d⟩ := key 7 1 rfl (Nat.le_refl _) (.inl rfl)
  exact ⟨j, a, b, c, d, intB_low n a b c d⟩
theorem foldI_low (n : Int) : ∀ j, j ≤ 8 → ∀ s, foldI s (lowB n j) = s * 256 ^ j + (n - restI n j * 256 ^ j)
  | 0, _, s => by
    rw [show lowB n 0 = [] from List.drop_eq_nil_of_le (by rw [be8_len]; omega), restI_zero]
    simp [foldI]
  | j + 1, hj, s => by
    rw [lowB_succ n (by omega)]
    show foldI (256 * s + restI n j % 256) (lowB n j) = _
    rw [foldI_low n j (by omega), restI_succ, Int.pow_succ]
    have e : restI n j = 256 * (restI n j / 256) + restI n j % 256 := by omega
    generalize restI n j / 256 = q at *
    generalize restI n j % 256 = m at *
    rw [e]
    generalize (256 : Int) ^ j = P
    simp only [Int.mul_add, Int.mul_comm, Int.mul_left_comm]
    omega
theorem numI_low (n : Int) {j : Nat} (h0 : 1 ≤ j) (hj : j ≤ 8) (hs : stopI n j) : numI (lowB n j) = n := by
  obtain ⟨i, rfl⟩ : ∃ i, j = i + 1 := ⟨j - 1, by omega⟩
  unfold stopI at hs
  rw [head_succ n (by omega), restI_succ] at hs
  rw [lowB_succ n (by omega)]
  show foldI (signI (restI n i % 256)) (lowB n i) = n
  rw [foldI_low n i (by omega)]
  have e : signI (restI n i % 256) = restI n i := by
    unfold signI
    split at hs
    · next h => rw [if_pos h]; omega
    · next h => rw [if_neg h]; omega
  rw [e]; omega
/-- A number's bytes are the number again; they are as few as hold it. -/
theorem numI_intB (n : Int) (h1 : -9223372036854775808 ≤ n) (h2 : n ≤ 9223372036854775807) : numI (intB n) = n := by
  obtain ⟨j, a, b, c, _, e⟩ := intB_some n h1 h2
  rw [e]; exact numI_low n a b c
theorem least_intB (n : Int) (h1 : -9223372036854775808 ≤ n) (h2 : n ≤ 9223372036854775807) : Dm.least (intB n) = true := by
  obtain ⟨j, a, b, c, d, e⟩ := intB_some n h1 h2
  rw [e]
  by_cases hj : j = 1
  · subst hj
    rw [lowB_succ n (by omega)]; rfl
  · obtain ⟨i, rfl⟩ : ∃ i, j = i + 1 := ⟨j - 1, by omega⟩
    rcases d with d | d
    · omega
    · cases hl : Dm.least (lowB n (i + 1)) with
      | true => rfl
      | false => exact absurd ((stop_step n (by omega) (by omega)).2 ⟨hl, c⟩) d
theorem intB_byte (n : Int) (h1 : -9223372036854775808 ≤ n) (h2 : n ≤ 9223372036854775807) : ∀ x ∈ intB n, byte x := by
  obtain ⟨j, _, _, _, _, e⟩ := intB_some n h1 h2
  rw [e]; exact lowB_byte n j
end Go.Proofs.YtfdchdnkblmijaaGreatDoor
end

section
namespace Go.Proofs.YtfdchdnkblmijaaGreatDoor

theorem foldI_range : ∀ (r : List Int) (q : Int), (∀ b ∈ r, byte b) → q * 256 ^ r.length ≤ foldI q r ∧ foldI q r < (q + 1) * 256 ^ r.length
  | [], q, _ => by simp [foldI]; omega
  | b :: r, q, hb => by
    have hb0 := hb b (by simp)
    unfold byte at hb0
    have h := foldI_range r (256 * q + b) (fun z hz => hb z (by simp [hz]))
    have hp : (0 : Int) < 256 ^ r.length := Int.pow_pos (by decide)
    have e : (256 : Int) ^ (b :: r).length = 256 * 256 ^ r.length := by rw [List.length_cons, Int.pow_succ, Int.mul_comm]
    show q * 256 ^ (b :: r).length ≤ foldI (256 * q + b) r ∧ foldI (256 * q + b) r < (q + 1) * 256 ^ (b :: r).length
    rw [e]
    generalize (256 : Int) ^ r.length = P at *
    have h1 : (256 * q + b) * P = 256 * (q * P) + b * P := by rw [Int.add_mul, Int.mul_assoc]
    have h2 : (256 * q + b + 1) * P = 256 * (q * P) + b * P + P := by rw [Int.add_mul, h1, Int.one_mul]
    have h3 : q * (256 * P) = 256 * (q * P) := by rw [← Int.mul_assoc, Int.mul_comm q 256, Int.mul_assoc]
    have h4 : (q + 1) * (256 * P) = 256 * (q * P) + 256 * P := by rw [Int.add_mul, h3, Int.one_mul]
    have h5 : 0 ≤ b * P := Int.mul_nonneg hb0.1 (Int.le_of_lt hp)
    have h6 : b * P ≤ 255 * P := Int.mul_le_mul_of_nonneg_right hb0.2 (Int.le_of_lt hp)
    rw [h1, h2] at h
    rw [h3, h4]
    omega
theorem numI_sign {x : Int} {r : List Int} (hx : byte x) (hr : ∀ b ∈ r, byte b) : numI (x :: r) < 0 ↔ 128 ≤ x := by
  have h := foldI_range r (signI x) hr
  have hp : (0 : Int) < 256 ^ r.length := Int.pow_pos (by decide)
  unfold byte at hx
  show foldI (signI x) r < 0 ↔ 128 ≤ x
  by_cases h128 : x < 128
  · have hs : signI x = x := by unfold signI; rw [if_pos h128]
    rw [hs] at h ⊢
    have : 0 ≤ x * 256 ^ r.length := Int.mul_nonneg hx.1 (Int.le_of_lt hp)
    constructor <;> intro h9 <;> omega
  · have hs : signI x = x - 256 := by unfold signI; rw [if_neg h128]
    rw [hs] at h ⊢
    have h2 : (x - 256 + 1) * 256 ^ r.length ≤ 0 := Int.mul_nonpos_of_nonpos_of_nonneg (by omega) (Int.le_of_lt hp)
    constructor <;> intro h9 <;> omega
theorem intB_inj {a b : Int} (ha : -9223372036854775808 ≤ a ∧ a ≤ 9223372036854775807) (hb : -9223372036854775808 ≤ b ∧ b ≤ 9223372036854775807) (h : intB a = intB b) : a = b := by
  rw [← numI_intB a ha.1 ha.2, h, numI_intB b hb.1 hb.2]
/-- As few as hold it: the lowest bits but the first nine are not all. -/
theorem low_not (a : Int) (h1 : -9223372036854775808 ≤ a) (h2 : a ≤ 9223372036854775807) (hl : 1 < (intB a).length) : a / 2 ^ (8 * (intB a).length - 9) ≠ 0 ∧ a / 2 ^ (8 * (intB a).length - 9) ≠ -1 := by
  have hn := numI_intB a h1 h2
  have hls := least_intB a h1 h2
  have hby := intB_byte a h1 h2
  match hB : intB a, hl with
  | x :: y :: r, _ =>
    rw [hB] at hn hls hby
    have hx := hby x (by simp); have hy := hby y (by simp)
    unfold byte at hx hy
    have h := foldI_range r (256 * signI x + y) (fun z hz => hby z (by simp [hz]))
    have hf : foldI (256 * signI x + y) r = a := hn
    rw [hf] at h
    have hp : (0 : Int) < 256 ^ r.length := Int.pow_pos (by decide)
    have he : (2 : Int) ^ (8 * (x :: y :: r).length - 9) = 128 * 256 ^ r.length := by
      rw [show 8 * (x :: y :: r).length - 9 = 7 + 8 * r.length by simp; omega, Int.pow_add, Int.pow_mul]; rfl
    rw [he, ← Int.ediv_ediv_of_nonneg (show (0 : Int) ≤ 128 by decide), Int.ediv_ediv_of_nonneg (show (0 : Int) ≤ 128 by decide), Int.mul_comm, ← Int.ediv_ediv_of_nonneg (Int.le_of_lt hp)]
    have hq : a / 256 ^ r.length = 256 * signI x + y := by
      generalize (256 : Int) ^ r.length = P at *
      have e := Int.mul_ediv_add_emod a P
      have m0 := Int.emod_nonneg a (show P ≠ 0 by omega)
      have m1 := Int.emod_lt_of_pos a hp
      generalize a / P = q at *
      generalize a % P = m at *
      have l1 : q < 256 * signI x + y + 1 := by
        apply Int.lt_of_mul_lt_mul_right (a := P) _ (Int.le_of_lt hp)
        rw [Int.mul_comm q P]; omega
      have l2 : 256 * signI x + y < q + 1 := by
        apply Int.lt_of_mul_lt_mul_right (a := P) _ (Int.le_of_lt hp)
        rw [Int.add_mul q 1 P, Int.mul_comm q P]; omega
      omega
    rw [hq]
    have hlst : decide (r.length ≤ 6) && !decide (x = if y < 128 then 0 else 255) := hls
    simp only [Bool.and_eq_true, Bool.not_eq_true', decide_eq_true_eq, decide_eq_false_iff_not] at hlst
    have hne := hlst.2
    unfold signI
    by_cases h128 : x < 128
    · rw [if_pos h128]
      by_cases hy1 : y < 128
      · rw [if_pos hy1] at hne; constructor <;> omega
      · rw [if_neg hy1] at hne; constructor <;> omega
    · rw [if_neg h128]
      by_cases hy1 : y < 128
      · rw [if_pos hy1] at hne; constructor <;> omega
      · rw [if_neg hy1] at hne; constructor <;> omega
/-- With a byte more ahead it is none. -/
theorem more_not (a p : Int) (h1 : -9223372036854775808 ≤ a) (h2 : a ≤ 9223372036854775807) (hp : p = if a < 0 then 255 else 0) : Dm.least (p :: intB a) = false := by
  have hn := numI_intB a h1 h2
  have hby := intB_byte a h1 h2
  match hB : intB a with
  | [] => have := least_intB a h1 h2; rw [hB] at this; cases this
  | x :: r =>
    rw [hB] at hn hby
    have hs := numI_sign (hby x (by simp)) (fun z hz => hby z (List.mem_cons_of_mem _ hz))
    rw [hn] at hs
    show (decide (r.length ≤ 6) && !decide (p = if x < 128 then 0 else 255)) = false
    have : p = if x < 128 then 0 else 255 := by
      rw [hp]
      by_cases h : a < 0
      · rw [if_pos h, if_neg (by have := hs.1 h; omega)]
      · rw [if_neg h, if_pos (by by_cases h9 : x < 128; exact h9; exact absurd (hs.2 (by omega)) h)]
    rw [decide_eq_true this]; simp
theorem int_may (a : Int) (h1 : -9223372036854775808 ≤ a) (h2 : a ≤ 9223372036854775807) : Dm.may 8 (.mk 2 (intB a) []) = true := by
  rw [Dm.may_form, form_eq]
  show ((decide ((2 : Int) = 48) || true) && Dm.least (intB a) && true && decide (1 ≤ 8)) = true
  rw [least_intB a h1 h2]; rfl
theorem more_may (a p : Int) (h1 : -9223372036854775808 ≤ a) (h2 : a ≤ 9223372036854775807) (hp : p = if a < 0 then 255 else 0) : Dm.may 8 (.mk 2 (p :: intB a) []) = false := by
  rw [Dm.may_form, form_eq]
  show ((decide ((2 : Int) = 48) || true) && Dm.least (p :: intB a) && true && decide (1 ≤ 8)) = false
  rw [more_not a p h1 h2 hp]; rfl
end Go.Proofs.YtfdchdnkblmijaaGreatDoor
end
