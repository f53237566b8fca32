/-
  The texts Ca Cw Cb Cc Rf Cd Ce Cf Cg Ch Cj Ci Ck in one. (Merged by wip/lay10m.py.)
-/
import Derived.Test.YtfdchdnkblmijaaGreatDoorYb
import Derived.Deep.QuietTactic
import Derived.BigQuiet
import Derived.StillTailTactics
import Derived.RangeFuncWrites
import Derived.Test.YtfdchdnkblmijaaGreatDoorOn
import Derived.Stop.RegionWithIn
import Derived.WalkMore
import Derived.Sort.QuietTacIn
import Derived.Sort.BigQuietIn
import Derived.Deep.RegionHeld3
import Derived.Sort.CutIn
import Derived.Laws.Rows
import Derived.OwnWalkIn
import Derived.Deep.CutBlock

section
namespace Go.Proofs.YtfdchdnkblmijaaGreatDoor
open Go.RowKit

/-- A slice of sieves. -/
def Svs (w : World) (v : Value) (ls : List Sm.Sv) : Prop :=
  ∃ a cap, v = .slice a ls.length cap ∧ ls.length ≤ cap ∧ cap ≤ maxLen ∧ (a = none → cap = 0) ∧
    (ls ≠ [] → ∃ b off, a = some ⟨b, off, none⟩ ∧ b < w.heap.size ∧ ∀ i, i < ls.length → ∃ vb, Row .u8 w vb (ls[i]?.getD Cm.nil).b ∧
      w.cell? ⟨b, off + i * 4, none⟩ = some (.int .i64 (ls[i]?.getD Cm.nil).bits) ∧ w.cell? ⟨b, off + i * 4 + 1, none⟩ = some (.int .i64 (ls[i]?.getD Cm.nil).hashes) ∧
      w.cell? ⟨b, off + i * 4 + 2, none⟩ = some (.int .i64 (ls[i]?.getD Cm.nil).salt) ∧ w.cell? ⟨b, off + i * 4 + 3, none⟩ = some vb)
theorem Svs.below {w w' : World} {v : Value} {ls : List Sm.Sv} (h : Svs w v ls) (hb : Below w.heap.size w w') : Svs w' v ls := by
  obtain ⟨a, cap, h1, h2, h3, h0, h5⟩ := h
  refine ⟨a, cap, h1, h2, h3, h0, fun hne => ?_⟩
  obtain ⟨b, off, e, hlt, hc⟩ := h5 hne
  refine ⟨b, off, e, Nat.lt_of_lt_of_le hlt hb.size, fun i hi => ?_⟩
  obtain ⟨vb, r, k0, k1, k2, k3⟩ := hc i hi
  exact ⟨vb, r.below hb, (hb.cell (p := ⟨b, _, none⟩) hlt).trans k0, (hb.cell (p := ⟨b, _, none⟩) hlt).trans k1, (hb.cell (p := ⟨b, _, none⟩) hlt).trans k2, (hb.cell (p := ⟨b, _, none⟩) hlt).trans k3⟩
theorem Svs.nil (w : World) : Svs w (.slice none 0 0) [] := ⟨none, 0, rfl, Nat.le_refl _, Nat.zero_le _, fun _ => rfl, fun h => absurd rfl h⟩
theorem Svs.shape {w : World} {v : Value} {ls : List Sm.Sv} (h : Svs w v ls) : ∃ a c, v = .slice a ls.length c := by
  obtain ⟨a, c, e, -⟩ := h
  exact ⟨a, c, e⟩
theorem Svs.alloc {w : World} {v : Value} {ls : List Sm.Sv} (h : Svs w v ls) (o : Obj) : Svs (w.alloc o) v ls := h.below ((Below.refl _ w).alloc (Nat.le_refl _) o)
theorem Svs.stp {w w' : World} {v : Value} {ls : List Sm.Sv} (h : Svs w v ls) (s : Stp w w') : Svs w' v ls := h.below s
theorem Svs.drew {w : World} {v : Value} {ls : List Sm.Sv} (h : Svs w v ls) : Svs w.drew v ls := h.below (Below.refl _ _).drew

set_option maxHeartbeats 400000 in
theorem time_any (n : Int) (w : World) : Calls Tryz.prog 71 #[.int .i64 n] w fun e w' => e = .returned (.bool (decide (Sm.right n))) ∧ w = w' := by
  by_cases h0 : 0 ≤ n
  · by_cases h1 : n ≤ 1099511627776
    · go_enter Tryz.func71, Tryz.ntmps71
      go_wp2
      go_ret
      exact ⟨ret_bool (decide_eq_true ⟨by omega, by omega⟩).symm, rfl⟩
    · go_enter Tryz.func71, Tryz.ntmps71
      go_wp2
      go_ret
      exact ⟨ret_bool (decide_eq_false (fun h => by have := h.1; have := h.2; omega)).symm, rfl⟩
  · go_enter Tryz.func71, Tryz.ntmps71
    go_wp2
    go_ret
    exact ⟨ret_bool (decide_eq_false (fun h => by have := h.1; have := h.2; omega)).symm, rfl⟩
theorem dated_any (n : Int) (w : World) : Calls Tryz.prog 38 #[.int .i64 n] w fun e w' => e = .returned (.bool (decide (Cm.dated n))) ∧ w = w' := by
  have hT := time_any n w
  by_cases h : Sm.right n
  · rw [decide_eq_true h] at hT
    by_cases h2 : n < 68719476736
    · have hd : Cm.dated n := ⟨h.1, h2⟩
      have hd := Lib.hid (decide_eq_true hd)
      have h2' := decide_eq_true h2
      clear h
      go_enter Tryz.func38, Tryz.ntmps38
      go_wp2_with fail
      refine hT.mono ?_; rintro e w' ⟨rfl, rfl⟩
      go_wp2_with fail
      go_ret
      exact ⟨ret_bool (by rw [hd.out]; first | done | rfl | exact h2'), rfl⟩
    · have hd : ¬ Cm.dated n := fun h => h2 h.2
      have hd := Lib.hid (decide_eq_false hd)
      have h2' := decide_eq_false h2
      clear h
      go_enter Tryz.func38, Tryz.ntmps38
      go_wp2_with fail
      refine hT.mono ?_; rintro e w' ⟨rfl, rfl⟩
      go_wp2_with fail
      go_ret
      exact ⟨ret_bool (by rw [hd.out]; first | done | rfl | exact h2'), rfl⟩
  · rw [decide_eq_false h] at hT
    have hd : ¬ Cm.dated n := fun hd => h ⟨hd.1, by have := hd.2; omega⟩
    have hd := Lib.hid (decide_eq_false hd)
    clear h
    go_enter Tryz.func38, Tryz.ntmps38
    go_wp2_with fail
    refine hT.mono ?_; rintro e w' ⟨rfl, rfl⟩
    go_wp2_with fail
    go_ret
    exact ⟨ret_bool (by rw [hd.out]; first | done | rfl | exact h2'), rfl⟩
theorem salt_any (day i : Int) (w : World) (h0 : 0 ≤ day) (h1 : day < 68719476736) (h2 : 0 ≤ i) (h3 : i ≤ 1000) : Calls Tryz.prog 50 #[.int .i64 day, .int .i64 i] w fun e w' => e = .returned (.int .i64 (16 * day + i)) ∧ w = w' := by
  have e1 : IntKind.i64.wrap (16 * day) = 16 * day := IntWalk.i64_in _ (by omega)
  have e2 : IntKind.i64.wrap (16 * day + i) = 16 * day + i := IntWalk.i64_in _ (by omega)
  go_enter Tryz.func50, Tryz.ntmps50
  go_wp2_with fail
  go_ret
  exact ⟨rfl, rfl⟩

/-- The first k may be, and the next one has to be more than m. -/
def Fine (l : List Int) (k : Nat) (m : Int) : Prop := -1 ≤ m ∧ Rv.rises (l.take k) ∧ ∀ x ∈ l.take k, x ≤ m
theorem Fine.snoc {l : List Int} {k : Nat} {m x : Int} (h : Fine l k m) (hk : k < l.length) (hx : l[k]?.getD 0 = x) (hm : m < x) (hr : Sm.right x) : Fine l (k + 1) x := by
  obtain ⟨h1, ⟨h2, h3⟩, h4⟩ := h
  have e : l.take (k + 1) = l.take k ++ [x] := by
    rw [List.take_succ_eq_append_getElem hk]
    rw [List.getElem?_eq_getElem hk] at hx
    rw [← hx]; rfl
  unfold Fine
  rw [e]
  refine ⟨by omega, ⟨fun y hy => ?_, ?_⟩, fun y hy => ?_⟩
  · rcases List.mem_append.1 hy with hy | hy
    · exact h2 y hy
    · rw [List.mem_singleton.1 hy]; exact hr
  · rw [List.pairwise_append]
    exact ⟨h3, by simp, fun a ha b hb => by rw [List.mem_singleton.1 hb]; have := h4 a ha; omega⟩
  · rcases List.mem_append.1 hy with hy | hy
    · have := h4 y hy; omega
    · rw [List.mem_singleton.1 hy]; omega
theorem Fine.not {l : List Int} {k : Nat} {m x : Int} (hk : k < l.length) (hx : l[k]?.getD 0 = x) (hm : k = 0 → m = -1) (hm2 : ∀ j, k = j + 1 → l[j]?.getD 0 = m) (h : ¬ (m < x ∧ Sm.right x)) : ¬ Rv.rises l := by
  rintro ⟨hr, hp⟩
  rw [List.getElem?_eq_getElem hk] at hx
  have hxr : Sm.right x := by rw [← hx]; exact hr _ (List.getElem_mem hk)
  refine h ⟨?_, hxr⟩
  cases k with
  | zero => rw [hm rfl]; have := hxr.1; omega
  | succ j =>
    have h1 := hm2 j rfl
    rw [List.getElem?_eq_getElem (show j < l.length by omega)] at h1
    have h2 := List.pairwise_iff_getElem.1 hp j (j + 1) (by omega) hk (by omega)
    simp only [Option.getD_some] at h1 hx
    omega
/-- Numbers that may be handed to Make. -/
def NumOk (l : List Int) : Prop := Rv.rises l ∧ l.length ≤ 256
instance (l : List Int) : Decidable (NumOk l) := by unfold NumOk; infer_instance
/-- What stands in front of place k. -/
def Before (l : List Int) (k : Nat) (m : Int) : Prop := (k = 0 → m = -1) ∧ ∀ j, k = j + 1 → l[j]?.getD 0 = m

theorem before_snoc {l : List Int} {k : Nat} {x : Int} (h : l[k]?.getD 0 = x) : Before l (k + 1) x := ⟨fun e => by omega, fun j e => by
  obtain rfl : j = k := by omega
  exact h⟩

set_option maxRecDepth 100000 in
set_option maxHeartbeats 1000000 in
theorem numbers_any (v : Value) (l : List Int) (w : World) (h : Row .i64 w v l) (hl : l.length ≤ 1000000) :
    Calls Tryz.prog 37 #[v] w fun e w' => e = .returned (.bool (decide (NumOk l))) ∧ w = w' := by
  obtain ⟨a, cap, rfl⟩ := h.shape l.length rfl
  have H := Lib.hid h
  clear h
  go_enter Tryz.func37, Tryz.ntmps37
  go_wp2_with fail
  go_loop [3, 5, 8] (fun m _ i => ∃ (k : Nat) (x : Int), i = .int .i64 k ∧ m = .int .i64 x ∧ k ≤ l.length ∧ Fine l k x ∧ Before l k x) (fun _ _ i => l.length - (intOf i).toNat)
  case atStart => exact ⟨0, -1, rfl, rfl, Nat.zero_le _, ⟨by omega, by simp [Rv.rises], by simp⟩, fun _ => rfl, fun j e => by omega⟩
  case round =>
    obtain ⟨k, m, rfl, rfl, hk, hF, hBf⟩ := hrel
    have HF := Lib.hid hF; have HBf := Lib.hid hBf
    have k0 : (0 : Int) ≤ (k : Int) := by omega
    have e1 : IntKind.i64.wrap ((k : Int) + 1) = (k : Int) + 1 := IntWalk.i64_in _ (by omega)
    clear hF hBf
    by_cases hlt : k < l.length
    · have hrow := H.out
      obtain ⟨_, _, e', _, _, _, _, h5⟩ := hrow
      cases e'
      obtain ⟨b0, o0, rfl, hb0, hc0⟩ := h5 (by rintro rfl; simp at hlt)
      have hck := hc0 k hlt
      obtain ⟨x, hx⟩ : ∃ x, l[k]?.getD 0 = x := ⟨_, rfl⟩
      rw [hx] at hck
      have HX := Lib.hid hx
      have k1 : (k : Int) < (l.length : Int) := by omega
      clear hc0 h5 hx
      by_cases hm : m < x
      · have hmd : decide (x ≤ m) = false := decide_eq_false (by omega)
        have hT := time_any x w
        by_cases hr : Sm.right x
        · rw [decide_eq_true hr] at hT
          have HR := Lib.hid hr
          clear hr
          go_wp2_with (go_at_call 71; refine hT.mono ?_; rintro e w' ⟨rfl, rfl⟩)
          go_round
          case rel =>
            exact ⟨k + 1, x, by go_num, rfl, by omega, HF.out.snoc hlt HX.out (by omega) HR.out, before_snoc HX.out⟩
          case measure => simp [intOf]; omega
        · rw [decide_eq_false hr] at hT
          have hno := Fine.not hlt HX.out HBf.out.1 HBf.out.2 (fun h => hr h.2)
          have HN := Lib.hid hno
          clear hr hno
          go_wp2_with (go_at_call 71; refine hT.mono ?_; rintro e w' ⟨rfl, rfl⟩)
          go_ret
          exact ⟨ret_bool (decide_eq_false (fun h => HN.out h.1)).symm, rfl⟩
      · have hno := Fine.not hlt HX.out HBf.out.1 HBf.out.2 (fun h => hm h.1)
        have HN := Lib.hid hno
        clear hno
        go_wp2_with fail
        go_ret
        exact ⟨ret_bool (decide_eq_false (fun h => HN.out h.1)).symm, rfl⟩
    · obtain rfl : k = l.length := by omega
      go_wp2_with fail
      go_ret
      have hF := HF.out.2.1
      rw [List.take_length] at hF
      exact ⟨ret_bool (by rw [decide_eq_decide]; exact ⟨fun h => ⟨hF, by omega⟩, fun h => by have := h.2; omega⟩), rfl⟩
end Go.Proofs.YtfdchdnkblmijaaGreatDoor
end

section
namespace Go.Proofs.YtfdchdnkblmijaaGreatDoor
open Go.RowKit

theorem bel_drewN {n : Nat} {w0 w : World} (h : Below n w0 w) (q : Nat) : Below n w0 (w.drewN q) := ⟨h.os, h.tape, h.output, h.size, h.block⟩
theorem cboxed_stp {w w' : World} {B : Nat} {t : TypeId} {v : Value} (h : Boxed w B t v) (s : Below w.heap.size w w') : Boxed w' B t v := (s.block B h.lt).trans h
theorem Row.off {k : IntKind} {w : World} {v : Value} {l : List Int} {g : Nat} (h : Row k w v l) (hg : w.heap.size ≤ g) : Off g v := fun b o n c e hn => by
  obtain ⟨a, cap, e2, _, _, _, _, hc⟩ := h
  rw [e] at e2
  cases e2
  obtain ⟨b2, o2, e3, hlt, _⟩ := hc (by rintro rfl; simp at hn)
  cases e3
  omega
theorem cell_alloc (w : World) (c : Array Value) (t : TypeId) (k : Nat) : (w.alloc (.cells c t)).cell? ⟨w.heap.size, k, none⟩ = c[k]? := by
  have h : (w.alloc (.cells c t)).heap[w.heap.size]? = some (.cells c t (0, 0)) := World.alloc_heap_new w (.cells c t)
  unfold World.cell?
  rw [h]
  rfl
end Go.Proofs.YtfdchdnkblmijaaGreatDoor
end

section
namespace Go.Proofs.YtfdchdnkblmijaaGreatDoor
open Go.RowKit

/-- The first k levels may be. -/
def GoodTo (day : Int) (ls : List Sm.Sv) (k : Nat) : Prop := ∀ i, i < k → Cm.goodAt day i (ls[i]?.getD Cm.nil)
theorem goodTo_not {day : Int} {ls : List Sm.Sv} {k : Nat} (hk : k < ls.length) (h : ¬ Cm.goodAt day k (ls[k]?.getD Cm.nil)) (h16 : ls.length ≤ 16) : Cm.chk day ls = 1 := by
  unfold Cm.chk
  rw [if_neg (by omega), if_neg]
  rintro ⟨-, -, h3⟩
  exact h (h3 k hk)

set_option maxRecDepth 100000 in
set_option maxHeartbeats 4000000 in
theorem CCheck_any (day : Int) (vl : Value) (ls : List Sm.Sv) (w : World) (h : Svs w vl ls) (hl : ls.length ≤ 1000000) :
    Calls Tryz.prog 16 #[.agg #[.int .i64 day, vl]] w fun e w' => e = .returned (.int .i64 (Cm.chk day ls)) ∧ Below w.heap.size w w' := by
  obtain ⟨a, c, rfl⟩ := h.shape
  obtain ⟨B, hB⟩ : ∃ B, w.heap.size = B := ⟨_, rfl⟩
  have q0 := Duo.new w 24 (.int .i64 day) (.slice a ls.length c)
  have hb0 := (Below.refl w.heap.size w).alloc (Nat.le_refl _) (.cells #[.int .i64 day, .slice a ls.length c] 24)
  have r0 := h.alloc (.cells #[.int .i64 day, .slice a ls.length c] 24)
  rw [hB] at q0
  have HB := Lib.hid hB
  have R0 := Lib.hid r0
  clear h r0 hB
  have c0 := q0.cell0; have c1 := q0.cell1
  by_cases h16 : 16 < ls.length
  · have hf : Cm.chk day ls = 2 := by unfold Cm.chk; rw [if_pos h16]
    rw [hf]
    clear hf
    go_enter Tryz.func16, Tryz.ntmps16
    go_wp2_with fail
    (try rw [HB.out])
    go_wp2_with fail
    go_ret
    first | exact ⟨rfl, hb0⟩ | exact ⟨rfl, by rw [← HB.out]; exact hb0⟩
  · by_cases hd : Cm.dated day
    · have hdd := decide_eq_true hd
      have HD := Lib.hid hd
      have h16' : ¬ (16 : Int) < (ls.length : Int) := by omega
      have hdt := dated_any day (w.alloc (.cells #[.int .i64 day, .slice a ls.length c] 24))
      rw [hdd] at hdt
      obtain ⟨W, hW⟩ : ∃ W, w.alloc (.cells #[.int .i64 day, .slice a ls.length c] 24) = W := ⟨_, rfl⟩
      rw [hW] at q0 hb0 R0 c0 c1 hdt
      have HW := Lib.hid hW
      clear hd hdd hW
      go_enter Tryz.func16, Tryz.ntmps16
      go_wp2_with fail
      rw [HW.out]
      (try rw [HB.out])
      go_wp2_with fail
      refine hdt.mono ?_; rintro e w1 ⟨rfl, rfl⟩
      clear hdt
      go_wp2_with fail
      go_loopw [3, 4, 16] (fun _ _ i wr => ∃ k : Nat, i = .int .i64 k ∧ k ≤ ls.length ∧ GoodTo day ls k ∧ Below W.heap.size W wr) (fun _ _ i _ => ls.length - (intOf i).toNat)
      case atStart => exact ⟨0, rfl, Nat.zero_le _, fun i hi => absurd hi (Nat.not_lt_zero _), Below.refl _ _⟩
      case round =>
        obtain ⟨k, rfl, hk, hG, hb⟩ := hrel
        have HG := Lib.hid hG
        have k0 : (0 : Int) ≤ (k : Int) := by omega
        have e1 : IntKind.i64.wrap ((k : Int) + 1) = (k : Int) + 1 := IntWalk.i64_in _ (by omega)
        have hBr := hb0.trans (hb.mono hb0.size)
        have qr := q0.stp hb
        clear hG c0 c1
        have c0 := qr.cell0; have c1 := qr.cell1; have lt := qr.lt
        by_cases hlt : k < ls.length
        · obtain ⟨_, _, e', _, hcm, _, h5⟩ := R0.out.below hb
          cases e'
          obtain ⟨b, off, rfl, hbl, hc⟩ := h5 (by rintro rfl; simp at hlt)
          obtain ⟨vb, rb, x0, x1, x2, x3⟩ := hc k hlt
          obtain ⟨s, hs⟩ : ∃ s, ls[k]?.getD Cm.nil = s := ⟨_, rfl⟩
          rw [hs] at rb x0 x1 x2
          have HS := Lib.hid hs
          have k1 : (k : Int) < (ls.length : Int) := by omega
          obtain ⟨sb, sh, ss, sl⟩ := s
          dsimp only at rb x0 x1 x2
          obtain ⟨av, cv, rfl⟩ := rb.shape sl.length rfl
          clear hc h5 hs
          have qG := Quad.new wr 41 (.int .i64 sb) (.int .i64 sh) (.int .i64 ss) (.slice av sl.length cv)
          have qV := qr.alloc (.cells #[.int .i64 sb, .int .i64 sh, .int .i64 ss, .slice av sl.length cv] 41)
          have hV := hb.alloc hb.size (.cells #[.int .i64 sb, .int .i64 sh, .int .i64 ss, .slice av sl.length cv] 41)
          have hBV := hBr.alloc hBr.size (.cells #[.int .i64 sb, .int .i64 sh, .int .i64 ss, .slice av sl.length cv] 41)
          have rV := rb.alloc (.cells #[.int .i64 sb, .int .i64 sh, .int .i64 ss, .slice av sl.length cv] 41)
          go_wp2_with fail
          generalize hVe : wr.alloc (.cells #[.int .i64 sb, .int .i64 sh, .int .i64 ss, .slice av sl.length cv] 41) = V at *
          generalize hGe : wr.heap.size = G at *
          have RV := Lib.hid rV
          clear hVe hGe x0 x1 x2 x3 c0 c1 lt rb rV
          have c0 := qV.cell0; have c1 := qV.cell1; have ltV := qV.lt; have ltG := qG.lt
          have g0 := qG.cell0; have g1 := qG.cell1; have g2 := qG.cell2; have g3 := qG.cell3
          by_cases k3 : sh = 3
          · subst k3
            by_cases k4 : ss = 16 * day + k
            · subst k4
              have hsalt : ∀ W' : World, Calls Tryz.prog 50 #[.int .i64 day, .int .i64 k] W' fun e w' => e = .returned (.int .i64 (16 * day + k)) ∧ w' = W' := fun W' => (salt_any day k W' HD.out.1 HD.out.2 (by omega) (by omega)).mono fun _ _ h => ⟨h.1, h.2.symm⟩
              by_cases k5 : Sm.ok ⟨sb, 3, 16 * day + k, sl⟩
              · have K5 := Lib.hid k5
                have hyes : Cm.goodAt day k (ls[k]?.getD Cm.nil) := by rw [HS.out]; exact ⟨k5, rfl, rfl⟩
                have HY := Lib.hid hyes
                clear k5 hyes
                go_still_tail 14, (by kernel_rfl)
                still_call (hsalt _)
                repeat still_step
                refine wpStill_nil ?_
                change wpList _ _ _ _ _ V.drew
                go_wp2_with fail
                refine (Check_yes ⟨sb, 3, 16 * day + k, sl⟩ _ _ (by exact RV.out) K5.out).mono ?_; rintro e w3 ⟨rfl, hb3⟩
                have hb4 : Below V.heap.size V w3 := ⟨hb3.os, hb3.tape, hb3.output, hb3.size, hb3.block⟩
                have hW3 := hV.trans (hb4.mono hV.size)
                clear hb3 hb4 g0 g1 g2 g3 c0 c1
                go_wp2_with fail
                go_roundw
                case rel =>
                  refine ⟨k + 1, by go_num, by omega, fun i hi => ?_, hW3⟩
                  rcases Nat.lt_or_ge i k with h | h
                  · exact HG.out i h
                  · obtain rfl : i = k := by omega
                    exact HY.out
                case measure => simp [intOf]; omega
              · have K5 := Lib.hid k5
                have hno := goodTo_not (day := day) hlt (fun h => k5 (by have := h.1; rw [HS.out] at this; exact this)) (by omega)
                have HN := Lib.hid hno
                clear k5 hno
                go_still_tail 14, (by kernel_rfl)
                still_call (hsalt _)
                repeat still_step
                refine wpStill_nil ?_
                change wpList _ _ _ _ _ V.drew
                go_wp2_with fail
                refine (Check_not ⟨sb, 3, 16 * day + k, sl⟩ _ _ (by exact RV.out) K5.out).mono ?_; rintro e w3 ⟨rfl, hb3⟩
                have hb4 : Below V.heap.size V w3 := ⟨hb3.os, hb3.tape, hb3.output, hb3.size, hb3.block⟩
                have hW3 := hBV.trans (hb4.mono hBV.size)
                clear hb3 hb4 g0 g1 g2 g3 c0 c1
                go_wp2_with fail
                go_ret
                rw [HN.out]
                exact ⟨rfl, hW3⟩
            · have hno := goodTo_not (day := day) hlt (fun h => k4 (by have := h.2.2; rw [HS.out] at this; exact this)) (by omega)
              have HN := Lib.hid hno
              have hsalt : ∀ W' : World, Calls Tryz.prog 50 #[.int .i64 day, .int .i64 k] W' fun e w' => e = .returned (.int .i64 (16 * day + k)) ∧ w' = W' := fun W' => (salt_any day k W' HD.out.1 HD.out.2 (by omega) (by omega)).mono fun _ _ h => ⟨h.1, h.2.symm⟩
              clear hno
              go_quiet ((go_at_call 50; exact Calls.quiet_of_same (hsalt _)))
              go_wp2_with fail
              go_ret
              rw [HN.out]
              exact ⟨rfl, bel_drewN hBV _⟩
          · have hno := goodTo_not (day := day) hlt (fun h => k3 (by have := h.2.1; rw [HS.out] at this; exact this)) (by omega)
            have HN := Lib.hid hno
            clear hno
            go_quiet (fail)
            go_wp2_with fail
            go_ret
            rw [HN.out]
            exact ⟨rfl, bel_drewN hBV _⟩
        · obtain rfl : k = ls.length := by omega
          have hg : Cm.good day ls := ⟨by omega, HD.out, HG.out⟩
          have hf : Cm.chk day ls = 0 := by unfold Cm.chk; rw [if_neg h16, if_pos hg]
          have HF := Lib.hid hf
          clear hg hf
          go_wp2_with fail
          go_ret
          rw [HF.out]
          exact ⟨rfl, hBr⟩
    · have hf : Cm.chk day ls = 1 := by unfold Cm.chk; rw [if_neg h16, if_neg (fun h => hd h.2.1)]
      have hdt := dated_any day (w.alloc (.cells #[.int .i64 day, .slice a ls.length c] 24))
      rw [decide_eq_false hd] at hdt
      rw [hf]
      have h16' : ¬ (16 : Int) < (ls.length : Int) := by omega
      obtain ⟨W, hW⟩ : ∃ W, w.alloc (.cells #[.int .i64 day, .slice a ls.length c] 24) = W := ⟨_, rfl⟩
      rw [hW] at q0 hb0 R0 c0 c1 hdt
      have HW := Lib.hid hW
      clear hd hf hW
      go_enter Tryz.func16, Tryz.ntmps16
      go_wp2_with fail
      rw [HW.out]
      (try rw [HB.out])
      go_wp2_with fail
      refine hdt.mono ?_; rintro e w1 ⟨rfl, rfl⟩
      clear hdt
      go_wp2_with fail
      go_ret
      first | exact ⟨rfl, hb0⟩ | exact ⟨rfl, by rw [← HB.out]; exact hb0⟩
end Go.Proofs.YtfdchdnkblmijaaGreatDoor
end

section
namespace Go.Proofs.YtfdchdnkblmijaaGreatDoor
open Go.RowKit

set_option maxRecDepth 100000 in
set_option maxHeartbeats 1000000 in
theorem Has1_any (s : Sm.Sv) (vb : Value) (n : Int) (N : Nat) (w : World) (hN : Boxed w N 3 (.int .i64 n)) (h : Row .u8 w vb s.b) :
    Calls Tryz.prog 46 #[.agg #[.int .i64 s.bits, .int .i64 s.hashes, .int .i64 s.salt, vb], .pointer (some ⟨N, 0, none⟩)] w fun e w' => e = .returned (.bool (!Sm.has s n)) ∧ Below w.heap.size w w' := by
  obtain ⟨a, c, rfl⟩ := h.shape s.b.length rfl
  have qG := Quad.new w 41 (.int .i64 s.bits) (.int .i64 s.hashes) (.int .i64 s.salt) (.slice a s.b.length c)
  have hb0 := (Below.refl w.heap.size w).alloc (Nat.le_refl _) (.cells #[.int .i64 s.bits, .int .i64 s.hashes, .int .i64 s.salt, .slice a s.b.length c] 41)
  have bN := hN.alloc (.cells #[.int .i64 s.bits, .int .i64 s.hashes, .int .i64 s.salt, .slice a s.b.length c] 41)
  have r0 := h.alloc (.cells #[.int .i64 s.bits, .int .i64 s.hashes, .int .i64 s.salt, .slice a s.b.length c] 41)
  have ltN := hN.lt
  obtain ⟨x, hx⟩ : ∃ x, Sm.has s n = x := ⟨_, rfl⟩
  have HX := Lib.hid hx
  rw [hx]
  have cN := bN.cell; have c0 := qG.cell0; have c1 := qG.cell1; have c2 := qG.cell2; have c3 := qG.cell3
  have R0 := Lib.hid r0
  clear hx h r0 hN
  go_enter Tryz.func46, Tryz.ntmps46
  go_wp2_with fail
  refine (Has_is s _ n x _ (by exact R0.out) HX.out).mono ?_; rintro e w' ⟨rfl, hb⟩
  have hB := hb0.trans (hb.mono hb0.size)
  clear hb c0 c1 c2 c3 cN
  go_wp2_with fail
  go_ret
  exact ⟨rfl, hB⟩

theorem idx_le (ls : List Sm.Sv) (x : Int) : Cm.idx ls x ≤ ls.length := List.Sublist.length_le (List.takeWhile_sublist _)
/-- All of the first k tell it. -/
def TellTo (ls : List Sm.Sv) (n : Int) (k : Nat) : Prop := ∀ i, i < k → Sm.has (ls[i]?.getD Cm.nil) n = true
theorem idx_stop : ∀ {ls : List Sm.Sv} {n : Int} {k : Nat}, k < ls.length → TellTo ls n k → Sm.has (ls[k]?.getD Cm.nil) n = false → Cm.idx ls n = k
  | [], _, _, h, _, _ => by simp at h
  | s :: ls, n, 0, _, _, hf => Cm.idx_cons_no s ls n (by simpa using hf)
  | s :: ls, n, k + 1, h, ht, hf => by
    have h0 : Sm.has s n = true := by have := ht 0 (by omega); simpa using this
    rw [Cm.idx_cons_yes s ls n h0]
    congr 1
    exact idx_stop (by simpa using h) (fun i hi => by have := ht (i + 1) (by omega); simpa using this) (by simpa using hf)
theorem idx_all : ∀ {ls : List Sm.Sv} {n : Int}, TellTo ls n ls.length → Cm.idx ls n = ls.length
  | [], _, _ => rfl
  | s :: ls, n, ht => by
    have h0 : Sm.has s n = true := by have := ht 0 (by simp); simpa using this
    rw [Cm.idx_cons_yes s ls n h0, idx_all (fun i hi => by have := ht (i + 1) (by simp; omega); simpa using this)]; rfl

set_option maxRecDepth 100000 in
set_option maxHeartbeats 1000000 in
theorem IndexS_any (N : Nat) (n : Int) (v : Value) (ls : List Sm.Sv) (w : World) (hN : Boxed w N 3 (.int .i64 n)) (h : Svs w v ls) (hl : ls.length ≤ 1000000) :
    Calls Tryz.prog 45 #[v, .func (.func 46) #[] #[.pointer (some ⟨N, 0, none⟩)]] w fun e w' =>
      (∃ r : Int, e = .returned (.int .i64 r) ∧ ((r = -1 ∧ Cm.idx ls n = ls.length) ∨ (r = Cm.idx ls n ∧ Cm.idx ls n < ls.length))) ∧ Below w.heap.size w w' := by
  obtain ⟨a, cap, rfl⟩ := h.shape
  have HR := Lib.hid h
  have BN := Lib.hid hN
  clear h hN
  go_enter Tryz.func45, Tryz.ntmps45
  go_wp2_with fail
  go_loopw [5, 8] (fun _ i wr => ∃ k : Nat, i = .int .i64 k ∧ k ≤ ls.length ∧ TellTo ls n k ∧ Below w.heap.size w wr) (fun _ i _ => ls.length - (intOf i).toNat)
  case atStart => exact ⟨0, rfl, Nat.zero_le _, fun j hj => absurd hj (Nat.not_lt_zero _), Below.refl _ _⟩
  case round =>
    obtain ⟨k, rfl, hk, hall, hb⟩ := hrel
    have Hall := Lib.hid hall
    clear hall
    have k0 : (0 : Int) ≤ (k : Int) := by omega
    have e1 : IntKind.i64.wrap ((k : Int) + 1) = (k : Int) + 1 := IntWalk.i64_in _ (by omega)
    by_cases hlt : k < ls.length
    · have k1 : (k : Int) < (ls.length : Int) := by omega
      obtain ⟨_, _, e', _, hcm, _, h5⟩ := HR.out.below hb
      cases e'
      obtain ⟨b, off, rfl, hbl, hc⟩ := h5 (by rintro rfl; simp at hlt)
      obtain ⟨vb, rb, x0, x1, x2, x3⟩ := hc k hlt
      obtain ⟨s, hs⟩ : ∃ s, ls[k]?.getD Cm.nil = s := ⟨_, rfl⟩
      rw [hs] at rb x0 x1 x2
      obtain ⟨av, cv, rfl⟩ := rb.shape s.b.length rfl
      have HS := Lib.hid hs
      have hC := Has1_any s _ n N wr (cboxed_stp BN.out hb) rb
      have hbs := hb.size
      clear hc h5 hs rb
      cases hqx : Sm.has s n with
      | true =>
        rw [hqx] at hC
        have HQ := Lib.hid hqx
        clear hqx
        go_wp2_with fail
        refine hC.mono ?_; rintro e w2 ⟨rfl, hb2⟩
        have hb3 := hb.trans (hb2.mono hbs)
        clear hC hb2 x0 x1 x2 x3
        go_wp2_with fail
        go_roundw
        case rel =>
          refine ⟨k + 1, by go_num, by omega, fun j hj => ?_, hb3⟩
          rcases Nat.lt_or_ge j k with h | h
          · exact Hall.out j h
          · obtain rfl : j = k := by omega
            rw [HS.out]; exact HQ.out
        case measure => simp [intOf]; omega
      | false =>
        rw [hqx] at hC
        have HQ := Lib.hid hqx
        clear hqx
        go_wp2_with fail
        refine hC.mono ?_; rintro e w2 ⟨rfl, hb2⟩
        have hb3 := hb.trans (hb2.mono hbs)
        clear hC hb2 x0 x1 x2 x3
        go_wp2_with fail
        go_ret
        have hi := idx_stop hlt Hall.out (by rw [HS.out]; exact HQ.out)
        exact ⟨⟨k, rfl, .inr ⟨by rw [hi], by omega⟩⟩, hb3⟩
    · obtain rfl : k = ls.length := by omega
      go_wp2_with fail
      go_ret
      exact ⟨⟨-1, rfl, .inl ⟨rfl, idx_all Hall.out⟩⟩, hb⟩

theorem and1 (x : Int) (h0 : 0 ≤ x) (h1 : x < 9223372036854775808) : bits .and .i64 x 1 = x % 2 := by
  have two63 : (2 : Int) ^ 63 = 9223372036854775808 := by decide
  have h := bits_mask .i64 63 (by decide) (fun n h0 h1 => by rw [two63] at h1; rw [IntKind.wrap_i64]; omega) 1 (by decide) x h0 (by rw [two63]; omega)
  have e : ((2 : Int) ^ 1 - 1) = 1 := by decide
  rw [e] at h
  rw [h]; rfl

set_option maxRecDepth 100000 in
set_option maxHeartbeats 1000000 in
theorem CHas_any (day : Int) (vl : Value) (ls : List Sm.Sv) (n : Int) (w : World) (h : Svs w vl ls) (hl : ls.length ≤ 1000000) :
    Calls Tryz.prog 14 #[.agg #[.int .i64 day, vl], .int .i64 n] w fun e w' => e = .returned (.bool (Cm.has day ls n)) ∧ Below w.heap.size w w' := by
  obtain ⟨a, c, rfl⟩ := h.shape
  obtain ⟨B, hB⟩ : ∃ B, w.heap.size = B := ⟨_, rfl⟩
  have q0 := (Duo.new w 24 (.int .i64 day) (.slice a ls.length c)).alloc (.cells #[.int .i64 n] 3)
  have n0 := Boxed.new (w.alloc (.cells #[.int .i64 day, .slice a ls.length c] 24)) 3 (.int .i64 n)
  have hb0 := ((Below.refl w.heap.size w).alloc (Nat.le_refl _) (.cells #[.int .i64 day, .slice a ls.length c] 24)).alloc (by simp) (.cells #[.int .i64 n] 3)
  have r0 := (h.alloc (.cells #[.int .i64 day, .slice a ls.length c] 24)).alloc (.cells #[.int .i64 n] 3)
  rw [hB] at q0
  rw [World.size_alloc, hB] at n0
  obtain ⟨W, hW⟩ : ∃ W, (w.alloc (.cells #[.int .i64 day, .slice a ls.length c] 24)).alloc (.cells #[.int .i64 n] 3) = W := ⟨_, rfl⟩
  rw [hW] at q0 n0 hb0 r0
  have HB := Lib.hid hB; have HW := Lib.hid hW
  have R0 := Lib.hid r0
  have hC := CCheck_any day _ ls W r0 hl
  clear h r0 hB hW
  have c0 := q0.cell0; have c1 := q0.cell1
  by_cases hg : Cm.good day ls
  · have hk : Cm.chk day ls = 0 := by unfold Cm.chk; rw [if_neg (by have := hg.1; omega), if_pos hg]
    rw [hk] at hC
    have hf : Cm.has day ls n = decide (Cm.idx ls n % 2 = 1) := by unfold Cm.has; rw [decide_eq_true hg]; rfl
    rw [hf]
    obtain ⟨i, hi⟩ : ∃ i, Cm.idx ls n = i := ⟨_, rfl⟩
    have hil := idx_le ls n
    rw [hi] at hil ⊢
    have HI := Lib.hid hi
    clear hg hk hf hi
    go_enter Tryz.func14, Tryz.ntmps14
    go_wp2_with fail
    rw [HW.out]
    (try rw [HB.out])
    go_wp2_with fail
    refine hC.mono ?_; rintro e w1 ⟨rfl, hb1⟩
    have hB1 := hb0.trans (hb1.mono hb0.size)
    have q1 := q0.stp hb1; have n1 := cboxed_stp n0 hb1
    have R1 := Lib.hid (R0.out.below hb1)
    clear hC hb1 c0 c1
    have c0 := q1.cell0; have c1 := q1.cell1
    go_wp2_with fail
    refine (IndexS_any _ n _ ls w1 n1 R1.out hl).mono ?_; rintro e w2 ⟨⟨r, rfl, hr⟩, hb2⟩
    rw [HI.out] at hr
    have hB2 := hB1.trans (hb2.mono hB1.size)
    have q2 := q1.stp hb2
    clear hb2 c0 c1
    have c0 := q2.cell0; have c1 := q2.cell1
    have ha := and1 i (by omega) (by omega)
    have hi2 : (i : Int) % 2 = 1 ↔ i % 2 = 1 := by omega
    rcases hr with ⟨rfl, rfl⟩ | ⟨rfl, hlt⟩
    · go_wp2_with fail
      go_ret
      exact ⟨ret_bool (by rw [Bool.eq_iff_iff, beq_iff_eq, decide_eq_true_iff]; omega), hB2⟩
    · have k0 : (0 : Int) ≤ (i : Int) := by omega
      go_wp2_with fail
      go_ret
      exact ⟨ret_bool (by rw [Bool.eq_iff_iff, beq_iff_eq, decide_eq_true_iff]; omega), hB2⟩
  · have hf : Cm.has day ls n = false := by unfold Cm.has; rw [decide_eq_false hg]; rfl
    have hk : ¬ Cm.chk day ls = 0 := by unfold Cm.chk; by_cases h16 : 16 < ls.length <;> simp [h16, hg]
    obtain ⟨cc, hcc⟩ : ∃ cc, Cm.chk day ls = cc := ⟨_, rfl⟩
    rw [hcc] at hk hC
    rw [hf]
    have HCC := Lib.hid hcc
    clear hg hf hcc
    go_enter Tryz.func14, Tryz.ntmps14
    go_wp2_with fail
    rw [HW.out]
    (try rw [HB.out])
    go_wp2_with fail
    refine hC.mono ?_; rintro e w1 ⟨rfl, hb1⟩
    have hB1 := hb0.trans (hb1.mono hb0.size)
    clear hC hb1 c0 c1
    go_wp2_with fail
    go_ret
    exact ⟨rfl, hB1⟩
end Go.Proofs.YtfdchdnkblmijaaGreatDoor
end

section
namespace Go.Proofs.YtfdchdnkblmijaaGreatDoor
open Go.RowKit

section
variable {F : Fence} {n : Nat} {P : Program} {α : Type}

/-- An iterator; Bs: the blocks of its own that it writes; R: what it knows of the world V when it yields x behind pre, having gone on from V0. -/
def SeqTold (F : Fence) (n : Nat) (P : Program) (g : Nat) (lb : Array Value) (encs : α → Array Value) (Bs : Nat → Prop) (R : List α → α → World → World → Prop) (Kp : List α → World → World → Prop) (S Sp : List α → Prop) (w : World) : Prop :=
  ∀ (l : Nat) (J Jx : List α → World → Prop) (W : World), Below w.heap.size w W → (∀ pre A B, J pre A → Only Bs A B → J pre B) → (∀ pre A B, Jx pre A → Only Bs A B → Jx pre B) →
    (∀ pre x V0 V, J pre V0 → Below V0.heap.size V0 V → R pre x V0 V → YieldAt F (n - 1) P l (encs x) V fun e V' => (e = .returned (.bool true) ∧ J (pre ++ [x]) V' ∧ Kp (pre ++ [x]) V V') ∨ (e = .returned (.bool false) ∧ Jx (pre ++ [x]) V')) →
    J [] W → CallsIn F n P g (#[.func (.yield l) #[] #[]] ++ lb) W fun e W' => (∃ v, e = .returned v) ∧ ((∃ xs, S xs ∧ J xs W') ∨ (∃ pre, Sp pre ∧ Jx pre W'))

/-- How a round's body, begun in V behind the yield in W, may be left. -/
def toldPost (B : Nat) (Kp : List α → World → World → Prop) (I : List α → World → Prop) (Ix : Code → List α → World → Prop) (xs : List α) (W V : World) : Exit → Act → World → Prop
  | .normal, _, V' => KeepsFrom B V V' ∧ Kp xs W V' ∧ I xs V'
  | .ret, _, V' => KeepsFrom B V V' ∧ Ix .ret xs V'
  | .exit id, _, V' => KeepsFrom B V V' ∧ Ix (.exit id) xs V'
  | .goto t, _, V' => KeepsFrom B V V' ∧ Ix (.goto t) xs V'
  | .panic _, _, _ => False
  | .outgrown, _, _ => False

/-- A block of book-keeping that is no cells, at or beyond B, lies on through what a body does. -/
theorem keeps_at {B k : Nat} {V V' : World} {o : Obj} (h : KeepsFrom B V V') (hk : B ≤ k) (ho : V.heap[k]? = some o) (hc : o.isCells = false) : V'.heap[k]? = some o := h.same k o hk ho hc

theorem wpIn_told {g : Operand} {ps : Array Tmp} {assign body : Code} {Q : Exit → Act → World → Prop} {a : Act} {w w0 : World}
    (hro : F.round = none) (h1 : 1 ≤ n) {gf : Nat} {lb : Array Value} (hg : a.eval g = .func (.func gf) #[] lb) (hFg : F.fn gf) (eg : ∀ args w, (callFunc gf args).run P w = .ok (.enter gf args) w)
    {encs : α → Array Value} {Bs : Nat → Prop} {R : List α → α → World → World → Prop} {Kp : List α → World → World → Prop} {S Sp : List α → Prop} (hseq : SeqTold F (n - 1) P gf lb encs Bs R Kp S Sp w0)
    (hKb : ∀ (xs : List α) (A V : World) (l : Nat) (o o' : Obj), Kp xs A V → w.heap.size ≤ l → V.heap[l]? = some o → o.isCells = false → o.isWalk = false → Kp xs A (V.putObj l o')) (hb0 : Below w0.heap.size w0 w) (hps : ∀ x, (encs x).size = ps.size)
    (I : List α → World → Prop) (Ix : Code → List α → World → Prop) (hBs : ∀ k, Bs k → k < w.heap.size) (hI : OwnFrom w.heap.size I) (hIx : ∀ c, OwnFrom w.heap.size (Ix c)) (hIB : ∀ pre A B, I pre A → Only Bs A B → I pre B) (hIxB : ∀ c pre A B, Ix c pre A → Only Bs A B → Ix c pre B) (h0 : I [] w)
    (hround : ∀ (l : Nat) (pre : List α) (x : α) (W0 W : World), w.heap.size ≤ l → I pre W0 → Below W0.heap.size W0 W → R pre x W0 W → (∃ r, W.heap[l]? = some (.loop r)) →
      assign.wpIn (F.inRound l) (n - 1 - 1) P (Exit.then (fun a' V => KeepsFrom w.heap.size W V ∧ ∀ r, body.wpIn (F.inRound l) (n - 1 - 1) P (toldPost w.heap.size Kp I Ix (pre ++ [x]) W (V.putObj l (.loop r))) a' (V.putObj l (.loop r))) (fun _ _ _ => False))
        { tmps := (ps.zip (encs x)).foldl (fun t (p, v) => t.setIfInBounds p v) a.tmps, defers := [] } W)
    (hdone : ∀ (D : Nat) (xs : List α) (W : World), w.heap.size ≤ D → S xs → I xs W → W.heap[D]? = some (.deferred (some [])) → Q .normal { a with defers := { target := .collected D, args := #[] } :: a.defers } W)
    (hstop : ∀ (D : Nat) (c : Code) (pre : List α) (W : World), w.heap.size ≤ D → Sp pre → Ix c pre W → W.heap[D]? = some (.deferred (some [])) → c.wpIn F n P Q { a with defers := { target := .collected D, args := #[] } :: a.defers } W) :
    (Code.rangeFunc g ps assign body).wpIn F n P Q a w := by
  refine wpIn_rangeFunc fun fn hfn => ?_
  rw [hro]
  -- the two blocks of book-keeping: D for the deferred calls, L for the record
  obtain ⟨D, hD⟩ : ∃ D, w.heap.size = D := ⟨_, rfl⟩
  let lp : LoopState → Option Code → Obj := fun st pe => .loop { state := st, pending := pe, fn, tmps := a.tmps, params := ps, assign, body, defers := D }
  have hlp : ∀ st pe, lp st pe = .loop { state := st, pending := pe, fn, tmps := a.tmps, params := ps, assign, body, defers := D } := fun _ _ => rfl
  have lpc : ∀ st pe, (lp st pe).isCells = false := fun _ _ => rfl
  have lpw : ∀ st pe, (lp st pe).isWalk = false := fun _ _ => rfl
  have start : ((w.alloc (.deferred (some []))).alloc (lp .ready none)).heap[D + 1]? = some (lp .ready none) ∧ ((w.alloc (.deferred (some []))).alloc (lp .ready none)).heap[D]? = some (.deferred (some [])) := by
    refine ⟨?_, ?_⟩
    · have := World.alloc_heap_new (w.alloc (.deferred (some []))) (lp .ready none)
      rw [World.size_alloc, hD] at this; exact this
    · have h2 := World.alloc_heap_new w (.deferred (some []))
      rw [hD] at h2
      exact (Below.heap_alloc _ _ _ (by simp; omega)).trans h2
  have hI1 : I [] ((w.alloc (.deferred (some []))).alloc (lp .ready none)) := hI.alloc _ (hI.alloc _ h0)
  have hb1 : Below w0.heap.size w0 ((w.alloc (.deferred (some []))).alloc (lp .ready none)) := (hb0.alloc hb0.size _).alloc (by have := hb0.size; simp; omega) _
  have hsz : ((w.alloc (.deferred (some []))).alloc (lp .ready none)).heap.size = D + 2 := by simp [hD]
  have hrun : (Instr.enterLoop fn a.tmps ps assign body none).run P w = .ok (D + 1, [{ target := .collected D, args := #[] }]) ((w.alloc (.deferred (some []))).alloc (lp .ready none)) := by
    have h := run_enterLoop_outer (P := P) (w := w) fn a.tmps ps assign body
    rw [hD] at h; exact h
  generalize (w.alloc (.deferred (some []))).alloc (lp .ready none) = W1 at *
  refine ⟨D + 1, _, W1, { target := .fn (.func gf) lb, args := #[.func (.yield (D + 1)) #[] #[]] }, W1, gf, #[.func (.yield (D + 1)) #[] #[]] ++ lb, W1, hrun, ?_, ?_, ?_, fun _ => h1, ?_⟩
  · simp only [resolve, hg]; simp [go_sem]
  · intro f' hf'; simp [Target.leads] at hf'; subst hf'; exact hFg
  · simp [invoke, go_sem, eg]
  -- what the law itself keeps beside the caller's invariant
  have stay : ∀ {X Y : World} {k : Nat} {o : Obj}, Only Bs X Y → D ≤ k → X.heap[k]? = some o → Y.heap[k]? = some o :=
    fun hg hk ho => (hg.block _ (Array.getElem?_eq_some_iff.1 ho).1 (fun hb => by have := hBs _ hb; omega)).trans ho
  refine (hseq (D + 1) (fun pre V => I pre V ∧ V.heap[D + 1]? = some (lp .ready none) ∧ V.heap[D]? = some (.deferred (some [])))
    (fun pre V => ∃ c, Ix c pre V ∧ V.heap[D + 1]? = some (lp .done (some c)) ∧ V.heap[D]? = some (.deferred (some []))) W1 hb1
    (fun s X Y hs hg' => ⟨hIB s X Y hs.1 hg', stay hg' (by omega) hs.2.1, stay hg' (Nat.le_refl _) hs.2.2⟩)
    (fun s X Y ⟨c, hs1, hs2, hs3⟩ hg' => ⟨c, hIxB c s X Y hs1 hg', stay hg' (by omega) hs2, stay hg' (Nat.le_refl _) hs3⟩) ?_ ⟨hI1, start.1, start.2⟩).mono ?_
  · -- one round
    rintro pre x W0 W ⟨hi, hl0, hd0⟩ hbw hR
    have hl := (hbw.block (D + 1) (Array.getElem?_eq_some_iff.1 hl0).1).trans hl0
    have hd := (hbw.block D (Array.getElem?_eq_some_iff.1 hd0).1).trans hd0
    refine ⟨fn, _, assign, body, run_yield (P := P) (args := encs x) hl (hps x), roundIn_of_wpIn hfn (wpIn_mono (hround (D + 1) pre x W0 W (by omega) hi hbw hR ⟨_, hl⟩) ?_)⟩
    intro ea a' V hp
    cases ea with
    | exit id => exact hp
    | goto t => exact hp
    | ret => exact hp
    | panic ch => exact hp
    | outgrown => exact hp
    | normal =>
    obtain ⟨hk, hbody⟩ := hp
    have hlV := keeps_at hk (k := D + 1) (by omega) hl rfl
    have hdV := keeps_at hk (k := D) (by omega) hd rfl
    have hlt : D + 1 < V.heap.size := (Array.getElem?_eq_some_iff.1 hlV).1
    refine ⟨_, run_beginRound hlV rfl, ?_⟩
    have hlB : (V.putObj (D + 1) (lp .busy none)).heap[D + 1]? = some (lp .busy none) := World.putObj_heap_same hlt
    have hdB : (V.putObj (D + 1) (lp .busy none)).heap[D]? = some (.deferred (some [])) := (World.putObj_heap_other (by omega)).trans hdV
    refine wpIn_mono (hbody _) ?_
    -- the record at the round's end
    have fin : ∀ (jump : Option Code) (V3 : World), KeepsFrom w.heap.size (V.putObj (D + 1) (lp .busy none)) V3 → V3.heap[D + 1]? = some (lp .busy none) ∧
        (Instr.endRound (D + 1) jump).run P V3 = .ok (.bool jump.isNone) (V3.putObj (D + 1) (lp (if jump.isNone then .ready else .done) jump)) ∧
        (V3.putObj (D + 1) (lp (if jump.isNone then .ready else .done) jump)).heap[D + 1]? = some (lp (if jump.isNone then .ready else .done) jump) ∧
        (V3.putObj (D + 1) (lp (if jump.isNone then .ready else .done) jump)).heap[D]? = some (.deferred (some [])) := fun jump V3 h3 => by
      have e3 := keeps_at h3 (k := D + 1) (by omega) hlB rfl
      exact ⟨e3, run_endRound (P := P) jump e3, World.putObj_heap_same (Array.getElem?_eq_some_iff.1 e3).1, (World.putObj_heap_other (by omega)).trans (keeps_at h3 (k := D) (by omega) hdB rfl)⟩
    intro e a3 V3 hp
    cases e with
    | normal =>
      obtain ⟨h3, hkp, hi3⟩ := hp
      obtain ⟨f0, f1, f2, f3⟩ := fin none V3 h3
      exact ⟨_, _, f1, .inl ⟨rfl, ⟨hI.putObj _ hi3 (by omega) f0 rfl, f2, f3⟩, hKb _ _ _ _ _ _ hkp (by omega) f0 rfl rfl⟩⟩
    | ret =>
      obtain ⟨h3, hi3⟩ := hp
      obtain ⟨f0, f1, f2, f3⟩ := fin (some .ret) V3 h3
      exact ⟨_, _, f1, .inr ⟨rfl, .ret, (hIx _).putObj _ hi3 (by omega) f0 rfl, f2, f3⟩⟩
    | exit id =>
      obtain ⟨h3, hi3⟩ := hp
      obtain ⟨f0, f1, f2, f3⟩ := fin (some (.exit id)) V3 h3
      exact ⟨_, _, f1, .inr ⟨rfl, .exit id, (hIx _).putObj _ hi3 (by omega) f0 rfl, f2, f3⟩⟩
    | goto t =>
      obtain ⟨h3, hi3⟩ := hp
      obtain ⟨f0, f1, f2, f3⟩ := fin (some (.goto t)) V3 h3
      exact ⟨_, _, f1, .inr ⟨rfl, .goto t, (hIx _).putObj _ hi3 (by omega) f0 rfl, f2, f3⟩⟩
    | panic ch => exact hp.elim
    | outgrown => exact hp.elim
  · -- behind the iterator
    rintro e W2 ⟨⟨v, rfl⟩, ⟨xs, hS, hi, hl, hd⟩ | ⟨pre, hS, c, hi, hl, hd⟩⟩
    · exact ⟨none, _, run_endLoop (P := P) hl (by simp), hdone D xs _ (by omega) hS (hI.putObj _ hi (by omega) hl rfl) ((World.putObj_heap_other (by omega)).trans hd)⟩
    · exact ⟨some c, _, run_endLoop (P := P) hl (by simp), hstop D c pre _ (by omega) hS ((hIx c).putObj _ hi (by omega) hl rfl) ((World.putObj_heap_other (by omega)).trans hd)⟩
end
end Go.Proofs.YtfdchdnkblmijaaGreatDoor
end

section
namespace Go.Proofs.YtfdchdnkblmijaaGreatDoor
open Go.RowKit

/-- Numbers as the levels are made of. -/
def NumL (l : List Int) : Prop := l.length ≤ 256 ∧ Sm.allRight l
theorem NumL.filter {l : List Int} (h : NumL l) (q : Int → Bool) : NumL (l.filter q) := ⟨Nat.le_trans (List.length_filter_le _ _) h.1, Cm.filter_right h.2⟩
/-- What is known when the levels pre have been made, and those of ins, outs are still to come. -/
def LvSt (day : Int) (ins0 outs0 : List Int) (pre : List Sm.Sv) (ins outs : List Int) : Prop :=
  Cm.build day 16 0 ins0 outs0 = (Cm.build day (16 - pre.length) (pre.length : Int) ins outs).map (pre ++ ·) ∧ pre.length ≤ 16 ∧ NumL ins ∧ NumL outs
theorem LvSt.start {day : Int} {ins outs : List Int} (h1 : NumL ins) (h2 : NumL outs) : LvSt day ins outs [] ins outs :=
  ⟨by simp, by simp, h1, h2⟩
theorem LvSt.none {day : Int} {ins0 outs0 : List Int} {pre : List Sm.Sv} {ins outs : List Int} (h : LvSt day ins0 outs0 pre ins outs) (h16 : pre.length = 16) : Cm.build day 16 0 ins0 outs0 = none := by
  rw [h.1, h16]; rfl
theorem LvSt.last {day : Int} {ins0 outs0 : List Int} {pre : List Sm.Sv} {ins outs : List Int} (h : LvSt day ins0 outs0 pre ins outs) (h16 : pre.length < 16) (hn : outs.filter (Sm.has (Cm.lv day pre.length ins)) = []) :
    Cm.build day 16 0 ins0 outs0 = some (pre ++ [Cm.lv day pre.length ins]) := by
  obtain ⟨f, hf⟩ : ∃ f, 16 - pre.length = f + 1 := ⟨15 - pre.length, by omega⟩
  rw [h.1, hf, Cm.build_last day f pre.length ins outs hn]; rfl
theorem LvSt.next {day : Int} {ins0 outs0 : List Int} {pre : List Sm.Sv} {ins outs : List Int} (h : LvSt day ins0 outs0 pre ins outs) (h16 : pre.length < 16) (hn : outs.filter (Sm.has (Cm.lv day pre.length ins)) ≠ []) :
    LvSt day ins0 outs0 (pre ++ [Cm.lv day pre.length ins]) (outs.filter (Sm.has (Cm.lv day pre.length ins))) ins := by
  obtain ⟨f, hf⟩ : ∃ f, 16 - pre.length = f + 1 := ⟨15 - pre.length, by omega⟩
  have hl : (pre ++ [Cm.lv day pre.length ins]).length = pre.length + 1 := by simp
  refine ⟨?_, by omega, h.2.2.2.filter _, h.2.2.1⟩
  rw [h.1, hf, Cm.build_step day f pre.length ins outs hn, hl, show 16 - (pre.length + 1) = f by omega, Option.map_map]
  congr 1
  funext l
  simp

/-- What the iterator holds in its three boxes. -/
structure LvIt (W : World) (P D Q : Nat) (day : Int) (base : Nat) (vi vo : Value) (ins outs : List Int) : Prop where
  pin : Boxed W P 36 vi
  pday : Boxed W D 3 (.int .i64 day)
  pout : Boxed W Q 36 vo
  rin : Row .i64 W vi ins
  rout : Row .i64 W vo outs
  sin : ∀ b o n c, vi = .slice (some ⟨b, o, none⟩) n c → 0 < n → b < base ∨ ∃ cs f, W.heap[b]? = some (.cells cs 3 f)
  sout : ∀ b o n c, vo = .slice (some ⟨b, o, none⟩) n c → 0 < n → b < base ∨ ∃ cs f, W.heap[b]? = some (.cells cs 3 f)
/-- What a round keeps: what lay below base; blocks of numbers, of slices of numbers, of bytes; the block G. -/
def KeepT (base G : Nat) (W V : World) : Prop := W.heap.size ≤ V.heap.size ∧ ∀ k, k < W.heap.size → (k < base ∨ (k = G ∧ ∃ cs t f, W.heap[k]? = some (.cells cs t f)) ∨ ∃ cs t f, W.heap[k]? = some (.cells cs t f) ∧ (t = 3 ∨ t = 36 ∨ t = 5)) → V.heap[k]? = W.heap[k]?
theorem Row.keep {k : IntKind} {W V : World} {v : Value} {l : List Int} (h : Row k W v l) (hs : W.heap.size ≤ V.heap.size) (hk : ∀ b o n c, v = .slice (some ⟨b, o, none⟩) n c → 0 < n → b < W.heap.size → V.heap[b]? = W.heap[b]?) : Row k V v l := by
  obtain ⟨a, cap, h1, h2, h3, h0, h4, h5⟩ := h
  refine ⟨a, cap, h1, h2, h3, h0, h4, fun hne => ?_⟩
  obtain ⟨b, o, e, hlt, hc⟩ := h5 hne
  exact ⟨b, o, e, Nat.lt_of_lt_of_le hlt hs, fun i hi => (World.cell?_of_block (hk b o _ _ (by rw [h1, e]) (List.length_pos_iff.2 hne) hlt)).trans (hc i hi)⟩
theorem LvIt.keep {W V : World} {P D Q base G : Nat} {day : Int} {vi vo : Value} {ins outs : List Int} (h : LvIt W P D Q day base vi vo ins outs) (hk : KeepT base G W V) : LvIt V P D Q day base vi vo ins outs := by
  have key : ∀ {b : Nat}, b < W.heap.size → (b < base ∨ ∃ cs f, W.heap[b]? = some (.cells cs 3 f)) → V.heap[b]? = W.heap[b]? := fun hb h => by
    rcases h with h | ⟨cs, f, h⟩
    · exact hk.2 _ hb (.inl h)
    · exact hk.2 _ hb (.inr (.inr ⟨cs, _, f, h, .inl rfl⟩))
  have hlt : ∀ {b : Nat} {cs t f}, W.heap[b]? = some (.cells cs t f) → b < W.heap.size := fun h => (Array.getElem?_eq_some_iff.1 h).1
  have safe : ∀ {v : Value}, (∀ b o n c, v = .slice (some ⟨b, o, none⟩) n c → 0 < n → b < base ∨ ∃ cs f, W.heap[b]? = some (.cells cs 3 f)) → ∀ b o n c, v = .slice (some ⟨b, o, none⟩) n c → 0 < n → b < base ∨ ∃ cs f, V.heap[b]? = some (.cells cs 3 f) := fun hv b o n c e hn => by
    rcases hv b o n c e hn with h | ⟨cs, f, h⟩
    · exact .inl h
    · exact .inr ⟨cs, f, (key (hlt h) (.inr ⟨cs, f, h⟩)).trans h⟩
  exact ⟨(hk.2 _ h.pin.lt (.inr (.inr ⟨_, _, _, h.pin, .inr (.inl rfl)⟩))).trans h.pin, (hk.2 _ h.pday.lt (.inr (.inr ⟨_, _, _, h.pday, .inl rfl⟩))).trans h.pday,
    (hk.2 _ h.pout.lt (.inr (.inr ⟨_, _, _, h.pout, .inr (.inl rfl)⟩))).trans h.pout, h.rin.keep hk.1 fun b o n c e hn hb => key hb (h.sin b o n c e hn), h.rout.keep hk.1 fun b o n c e hn hb => key hb (h.sout b o n c e hn), safe h.sin, safe h.sout⟩
theorem KeepT.of_below {W V : World} (base G : Nat) (h : Below W.heap.size W V) : KeepT base G W V := ⟨h.size, fun k hk _ => h.block k hk⟩
theorem LvIt.stp {W V : World} {P D Q base : Nat} {day : Int} {vi vo : Value} {ins outs : List Int} (h : LvIt W P D Q day base vi vo ins outs) (hb : Below W.heap.size W V) : LvIt V P D Q day base vi vo ins outs := h.keep (G := 0) (KeepT.of_below base 0 hb)

/-- A level that is yielded: its number, the sieve, its bytes' slice, the block in which it lies. -/
structure Lvl where
  i : Nat
  s : Sm.Sv
  vb : Value
  G : Nat
def lvEnc (x : Lvl) : Array Value := #[.int .i64 x.i, .agg #[.int .i64 x.s.bits, .int .i64 x.s.hashes, .int .i64 x.s.salt, x.vb, .int .i64 0]]
/-- The bytes of a level, in memory that is the call's own. -/
def Own8 (W : World) (lim : Nat) (x : Lvl) : Prop := W.ownsRow lim 5 1 x.vb x.s.b.length (x.s.b.map (Value.int .u8)) ∧ ∀ y ∈ x.s.b, byte y
/-- What the iterator knows when it yields. -/
def LvR (day : Int) (ins0 outs0 : List Int) (lim : Nat) (pre : List Lvl) (x : Lvl) (W0 W : World) : Prop :=
  x.i = pre.length ∧ pre.length ≤ 16 ∧ Own8 W lim x ∧ (W0.heap.size ≤ x.G ∧ x.G < W.heap.size) ∧ (pre.length = 16 → Cm.build day 16 0 ins0 outs0 = none)
def LvK (base : Nat) (xs : List Lvl) (W V : World) : Prop := xs.length ≤ 16 ∧ ∀ x, xs.getLast? = some x → KeepT base x.G W V

theorem levels_any (a1 a2 : Option Addr) (n1 n2 c1 c2 : Nat) (day : Int) (w : World) :
    Calls Tryz.prog 39 #[.slice a1 n1 c1, .slice a2 n2 c2, .int .i64 day] w fun e w' =>
      e = .returned (.func (.func 72) #[] #[.pointer (some ⟨w.heap.size, 0, none⟩), .pointer (some ⟨w.heap.size + 2, 0, none⟩), .pointer (some ⟨w.heap.size + 1, 0, none⟩)]) ∧
      ((w.alloc (.cells #[.slice a1 n1 c1] 36)).alloc (.cells #[.slice a2 n2 c2] 36)).alloc (.cells #[.int .i64 day] 3) = w' := by
  go_enter Tryz.func39, Tryz.ntmps39
  go_wp2_with fail
  go_ret
  exact ⟨rfl, rfl⟩

/-- A level's sieve is made. -/
theorem LvOf_any (vl : Value) (ins : List Int) (day : Int) (j : Nat) (s : Sm.Sv) (w : World) (h : Row .i64 w vl ins) (hl : NumL ins) (hd : Cm.dated day) (hj : j ≤ 16) (hs : Cm.lv day j ins = s) (m : Int) (hm : max 1 (ins.length : Int) = m) (sa : Int) (hsa : 16 * day + j = sa) :
    Calls Tryz.prog 73 #[vl, .int .i64 (8 * m), .int .i64 3, .int .i64 sa] w fun e w' =>
      ∃ g, e = .returned (.tuple #[.agg #[.int .i64 s.bits, .int .i64 s.hashes, .int .i64 s.salt, .slice (some ⟨g, 0, none⟩) s.b.length s.b.length], .int .i64 0]) ∧ w'.ownsRow w.heap.size 5 1 (.slice (some ⟨g, 0, none⟩) s.b.length s.b.length) s.b.length (s.b.map (Value.int .u8)) ∧ (∀ y ∈ s.b, byte y) ∧ Below w.heap.size w w' := by
  subst hm hs hsa
  have hok := Cm.lv_ok day j ins ⟨by have := hd.1; omega, by have := hd.2; omega⟩ (by have := hl.1; omega) hl.2
  refine (Of_sv vl ins _ 3 _ w h (by have := hl.1; omega)).mono ?_
  rintro e w' ⟨⟨-, g, rfl, own⟩ | ⟨hno, -⟩, hB⟩
  · have e1 : Cm.lv day j ins = (Sm.fresh (8 * max 1 (ins.length : Int)) 3 (16 * day + j)).with (Sm.puts (Sm.fresh (8 * max 1 (ins.length : Int)) 3 (16 * day + j)).b (Sm.allPlaces (Sm.fresh (8 * max 1 (ins.length : Int)) 3 (16 * day + j)) ins)) := by
      unfold Cm.lv Sm.ofS; rw [if_pos hok]
    have e2 : (Cm.lv day j ins).b.length = (Sm.fresh (8 * max 1 (ins.length : Int)) 3 (16 * day + j)).b.length := by rw [e1]; exact Sm.puts_length _ _
    refine ⟨g, by rw [e2, e1]; rfl, ?_, ?_, hB⟩
    · rw [e2, e1]; exact own
    · rw [e1]; exact Sm.puts_bytes (Sm.zero_bytes _) _
  · exact absurd hok hno
end Go.Proofs.YtfdchdnkblmijaaGreatDoor
end

section
namespace Go.Proofs.YtfdchdnkblmijaaGreatDoor
open Go.RowKit Go.Shelf
attribute [local go_sem] Oper.semAt_some

theorem lvl_set {wr w2 : World} {G g base lim n : Nat} {T : TypeId} {z0 z1 z2 z3 : Value} (a b c d : Value) {xs : List Value} (zz : Quad w2 G T z0 z1 z2 z3) (own : w2.ownsRow base 5 1 (.slice (some ⟨g, 0, none⟩) n n) n xs) (hG : G < base) (hl : lim ≤ base)
    (hW : Below wr.heap.size wr w2) (hGw : wr.heap.size ≤ G) : Quad ((((w2.setCell ⟨G, 0, none⟩ a).setCell ⟨G, 1, none⟩ b).setCell ⟨G, 2, none⟩ c).setCell ⟨G, 3, none⟩ d) G T a b c d ∧
    Below wr.heap.size wr ((((w2.setCell ⟨G, 0, none⟩ a).setCell ⟨G, 1, none⟩ b).setCell ⟨G, 2, none⟩ c).setCell ⟨G, 3, none⟩ d) ∧
    ((((w2.setCell ⟨G, 0, none⟩ a).setCell ⟨G, 1, none⟩ b).setCell ⟨G, 2, none⟩ c).setCell ⟨G, 3, none⟩ d).ownsRow lim 5 1 (.slice (some ⟨g, 0, none⟩) n n) n xs := by
  have hg : base ≤ g := own_above own rfl
  have hne : ∀ o, (Value.slice (some ⟨g, 0, none⟩) n n).ownBlock ≠ some (⟨G, o, none⟩ : Addr).block := fun o e => by simp [Value.ownBlock] at e; omega
  exact ⟨(((zz.set0 a).set1 b).set2 c).set3 d, (((hW.setCell (p := ⟨G, 0, none⟩) hGw a).setCell (p := ⟨G, 1, none⟩) hGw b).setCell (p := ⟨G, 2, none⟩) hGw c).setCell (p := ⟨G, 3, none⟩) hGw d,
    owns_base (ownsRow_setCell_other (ownsRow_setCell_other (ownsRow_setCell_other (ownsRow_setCell_other own (hne 0) a) (hne 1) b) (hne 2) c) (hne 3) d) hl⟩
def TwoB (P Q : Nat) (k : Nat) : Prop := k = P ∨ k = Q

theorem boxed_other {W : World} {B g : Nat} {t : TypeId} {v : Value} (h : Boxed W B t v) (hne : B ≠ g) (o : Nat) (u : Value) : Boxed (W.setCell ⟨g, o, none⟩ u) B t v := (Below.heap_setCell W ⟨g, o, none⟩ u B hne).trans h
theorem boxed_ne {W : World} {B g : Nat} {t t' : TypeId} {v : Value} {cs : Array Value} {f : Nat × Nat} (h : Boxed W B t v) (h' : W.heap[g]? = some (.cells cs t' f)) (hne : t ≠ t') : g ≠ B := by
  rintro rfl
  rw [show W.heap[g]? = _ from h] at h'
  injection h' with h'
  injection h' with _ h2
  exact hne h2
/-- The round's end: the boxes are turned. -/
theorem lv_turn {V' w5 : World} {P D Q base b : Nat} {day : Int} {vi vo v5 : Value} {ins outs outs' : List Int} (i4 : LvIt V' P D Q day base vi vo ins outs) (hb6 : Below V'.heap.size V' w5)
    (own5 : w5.ownsRow b 3 1 v5 outs'.length (outs'.map (Value.int .i64))) (hwf : ∀ x ∈ outs', (Lit.int .i64 x).wf = true) (hPQ : P ≠ Q) (hbP : base ≤ P) (hbQ : base ≤ Q) :
    LvIt ((w5.setCell ⟨P, 0, none⟩ v5).setCell ⟨Q, 0, none⟩ vi) P D Q day base v5 vi outs' ins ∧ Only (TwoB P Q) V' ((w5.setCell ⟨P, 0, none⟩ v5).setCell ⟨Q, 0, none⟩ vi) := by
  have i5 := i4.stp hb6
  have hint : (36 : TypeId) ≠ 3 := by decide
  have hDP : D ≠ P := boxed_ne i5.pin i5.pday hint
  have hDQ : D ≠ Q := boxed_ne i5.pout i5.pday hint
  have hsz : ((w5.setCell ⟨P, 0, none⟩ v5).setCell ⟨Q, 0, none⟩ vi).heap.size = w5.heap.size := by simp
  have keep : ∀ k, k ≠ P → k ≠ Q → ((w5.setCell ⟨P, 0, none⟩ v5).setCell ⟨Q, 0, none⟩ vi).heap[k]? = w5.heap[k]? := fun k h1 h2 =>
    (Below.heap_setCell _ ⟨Q, 0, none⟩ vi k h2).trans (Below.heap_setCell w5 ⟨P, 0, none⟩ v5 k h1)
  have typed : ∀ {k : Nat} {cs : Array Value} {f : Nat × Nat}, w5.heap[k]? = some (.cells cs 3 f) → ((w5.setCell ⟨P, 0, none⟩ v5).setCell ⟨Q, 0, none⟩ vi).heap[k]? = w5.heap[k]? := fun h =>
    keep _ (boxed_ne i5.pin h hint) (boxed_ne i5.pout h hint)
  have own_at : ∀ b' o n c, v5 = .slice (some ⟨b', o, none⟩) n c → ∃ cs f, w5.heap[b']? = some (.cells cs 3 f) := by
    intro b' o n c e
    rcases own5.2 with ⟨h1, _⟩ | ⟨g', cap', cur, h1, _, hh, _⟩
    · rw [h1] at e; cases e
    · rw [h1] at e; cases e
      exact ⟨_, _, hh⟩
  refine ⟨⟨boxed_other (Boxed.set v5 i5.pin) hPQ 0 _, (keep D hDP hDQ).trans i5.pday, Boxed.set vi (boxed_other i5.pout (fun e => hPQ e.symm) 0 _), ?_, ?_, ?_, ?_⟩, ?_⟩
  · refine (Row.owned64 own5 hwf).keep (by rw [hsz]; exact Nat.le_refl _) fun b' o n c e _ _ => ?_
    obtain ⟨cs, f, h⟩ := own_at b' o n c e
    exact typed h
  · refine i5.rin.keep (by rw [hsz]; exact Nat.le_refl _) fun b' o n c e hn _ => ?_
    rcases i5.sin b' o n c e hn with h | ⟨cs, f, h⟩
    · exact keep b' (by omega) (by omega)
    · exact typed h
  · intro b' o n c e _
    obtain ⟨cs, f, h⟩ := own_at b' o n c e
    exact .inr ⟨cs, f, (typed h).trans h⟩
  · intro b' o n c e hn
    rcases i5.sin b' o n c e hn with h | ⟨cs, f, h⟩
    · exact .inl h
    · exact .inr ⟨cs, f, (typed h).trans h⟩
  · exact ((Only.of_below hb6 _).setCell (p := ⟨P, 0, none⟩) (.inl (.inl rfl)) _).setCell (p := ⟨Q, 0, none⟩) (.inl (.inr rfl)) _

set_option maxRecDepth 100000 in
set_option maxHeartbeats 8000000 in
theorem levels1_in (n0 : Nat) (hn : 1 ≤ n0) (L P D Q base lim : Nat) (day : Int) (ins0 outs0 : List Int) (hd : Cm.dated day) (J Jx : List Lvl → World → Prop)
    (hJ : ∀ pre W W', J pre W → Only (TwoB P Q) W W' → J pre W')
    (hY : ∀ pre (x : Lvl) V0 V, J pre V0 → Below V0.heap.size V0 V → LvR day ins0 outs0 lim pre x V0 V → YieldAt Fence.wide (n0 - 1) Tryz.prog L (lvEnc x) V fun e V' =>
      (e = .returned (.bool true) ∧ J (pre ++ [x]) V' ∧ LvK base (pre ++ [x]) V V') ∨ (e = .returned (.bool false) ∧ Jx (pre ++ [x]) V'))
    (W : World) (vi vo : Value) (hPQ : P ≠ Q) (hbP : base ≤ P) (hbQ : base ≤ Q) (hI : LvIt W P D Q day base vi vo ins0 outs0) (hi0 : NumL ins0) (ho0 : NumL outs0) (hlim : lim ≤ W.heap.size) (h0 : J [] W) :
    CallsIn Fence.wide n0 Tryz.prog 72 #[.func (.yield L) #[] #[], .pointer (some ⟨P, 0, none⟩), .pointer (some ⟨D, 0, none⟩), .pointer (some ⟨Q, 0, none⟩)] W fun e W' => (∃ v, e = .returned v) ∧
      ((∃ xs : List Lvl, Cm.build day 16 0 ins0 outs0 = some (xs.map (·.s)) ∧ J xs W') ∨ (∃ pre : List Lvl, True ∧ Jx pre W')) := by
  have hst := LvSt.start (day := day) hi0 ho0
  refine callsIn_of_wp Tryz.func72 rfl trivial ?_ rfl
  simp only [Tryz.ntmps72, List.size_toArray, List.length_cons, List.length_nil, Nat.reduceAdd, Nat.reduceSub, Array.replicate_succ, Array.replicate_zero, List.push_toArray, List.append_toArray, List.nil_append, List.cons_append]
  gi_wp2
  gi_loopw [5] (fun i wr => ∃ (j : Nat) (pre : List Lvl) (wi wo : Value) (ins outs : List Int), i = .int .i64 j ∧ pre.length = j ∧ j ≤ 16 ∧ J pre wr ∧ LvIt wr P D Q day base wi wo ins outs ∧ lim ≤ wr.heap.size ∧
    ((ins = [] ∧ pre ≠ [] ∧ Cm.build day 16 0 ins0 outs0 = some (pre.map (·.s))) ∨ ((pre = [] ∨ ins ≠ []) ∧ LvSt day ins0 outs0 (pre.map (·.s)) ins outs))) (fun i _ => 17 - (intOf i).toNat)
  case atStart => exact ⟨0, [], vi, vo, ins0, outs0, rfl, rfl, by omega, h0, hI, hlim, .inr ⟨.inl rfl, hst⟩⟩
  case round =>
    obtain ⟨j, pre, wi, wo, ins, outs, rfl, hpl, hj, hJs, hIr, hlr, hcase⟩ := hrel
    clear hI h0 hst
    have p0 := hIr.pin.cell
    obtain ⟨ai, ci, rfl⟩ := hIr.rin.shape ins.length rfl
    obtain ⟨ao, co, rfl⟩ := hIr.rout.shape outs.length rfl
    rcases hcase with ⟨rfl, hne, hbuild⟩ | ⟨hor, hSt⟩
    · have hj0 : ¬ (j : Int) = 0 := by
        intro e
        exact hne (List.length_eq_zero_iff.1 (by omega))
      have HF := Lib.hid hbuild
      clear hbuild hne
      gi_wp2
      go_end0
      exact ⟨⟨_, rfl⟩, .inl ⟨pre, HF.out, hJs⟩⟩
    · have hlen : (pre.map (·.s)).length = j := by rw [List.length_map]; exact hpl
      have d0 := hIr.pday.cell
      have q0 := hIr.pout.cell
      obtain ⟨s, hs⟩ : ∃ s, Cm.lv day j ins = s := ⟨_, rfl⟩
      obtain ⟨m, hm⟩ : ∃ m, max 1 (ins.length : Int) = m := ⟨_, rfl⟩
      have hm1 : 1 ≤ m := by omega
      have hm2 : m ≤ 256 := by have := hSt.2.2.1.1; omega
      have em : IntKind.i64.wrap (8 * m) = 8 * m := IntWalk.i64_in _ (by omega)
      obtain ⟨sa, hsa⟩ : ∃ sa, 16 * day + (j : Int) = sa := ⟨_, rfl⟩
      have hsalt : ∀ (W' : World) (z : Int), z = j → Calls Tryz.prog 50 #[.int .i64 day, .int .i64 z] W' fun e w' => e = .returned (.int .i64 sa) ∧ w' = W' := by
        intro W' z hz
        subst hz
        rw [← hsa]
        exact (salt_any day j W' hd.1 hd.2 (by omega) (by omega)).mono fun _ _ h => ⟨h.1, h.2.symm⟩
      have HSa := Lib.hid hsa
      clear hsa
      have ltP := hIr.pin.lt; have ltD := hIr.pday.lt
      have nP1 : ¬ P = wr.heap.size := by omega
      have nP2 : ¬ wr.heap.size = P := by omega
      have nD1 : ¬ D = wr.heap.size := by omega
      have nD2 : ¬ wr.heap.size = D := by omega
      have HIr := Lib.hid hIr; have HSt := Lib.hid hSt; have HS := Lib.hid hs; have HL := Lib.hid hlen; have HPL := Lib.hid hpl; have HM := Lib.hid hm
      have HOr := Lib.hid hor
      have k0 : (0 : Int) ≤ (j : Int) := by omega
      have hnl := hSt.2.2.1
      have HNL := Lib.hid hnl
      clear hIr hSt hs hlen hpl hor hnl
      have hpos : ¬ (j : Int) = 0 → 0 < (ins.length : Int) := by
        intro h
        rcases HOr.out with h2 | h2
        · subst h2; have := HPL.out; simp at this; omega
        · have := List.length_pos_iff.2 h2; omega
      gi_upto_region 1 with fail
      gi_cut [5, 14] from 8 (fun s5 s14 wx => s5 = .int .i64 j ∧ (∃ b : Bool, s14 = .bool b ∧ b = true) ∧ wr = wx)
      case first =>
        by_cases hj0 : (j : Int) = 0
        case' neg =>
          have hpos' := hpos hj0
          have hj0b : ((j : Int) == 0) = false := by simpa using hj0
        all_goals
          clear hpos
          gi_wp2
          gi_meet
          case rel => exact ⟨by first | rfl | rw [hj0], ⟨_, rfl, by first | rfl | (simp; omega)⟩, rfl⟩
      case rest =>
        obtain ⟨rfl, ⟨b, rfl, rfl⟩, rfl⟩ := hcut
        clear hpos
        gi_upto_region 3 with fail
        gi_cut [6, 7] from 8 (fun s6 s7 X => ∃ G g, s6 = .pointer (some ⟨G, 0, none⟩) ∧ s7 = .int .i64 0 ∧ Quad X G 41 (.int .i64 s.bits) (.int .i64 s.hashes) (.int .i64 s.salt) (.slice (some ⟨g, 0, none⟩) s.b.length s.b.length) ∧ Below wr.heap.size wr X ∧
          X.ownsRow lim 5 1 (.slice (some ⟨g, 0, none⟩) s.b.length s.b.length) s.b.length (s.b.map (Value.int .u8)) ∧ wr.heap.size ≤ G ∧ ∀ y ∈ s.b, byte y)
        case first =>
          refine wpIn_wide.2 ?_
          go_region_held3 (fun w' => w'.cell? ⟨P, 0, none⟩ = some (.slice ai ins.length ci) ∧ w'.cell? ⟨D, 0, none⟩ = some (.int .i64 day))
            (first | go_keep | (refine ⟨?_, ?_⟩ <;> assumption))
            (first
            | (go_at_call 50; refine (hsalt _ _ (by omega)).mono ?_; rintro e w2 ⟨rfl, rfl⟩)
            | (go_at_call 73
               refine (LvOf_any _ ins day j s _ (by first | exact HIr.out.rin | exact HIr.out.rin.drew | exact (HIr.out.rin.alloc _).drew | exact HIr.out.rin.alloc _) HNL.out hd hj HS.out m HM.out sa HSa.out).mono ?_
               rintro e w2 ⟨g, rfl, own, hby, hb2⟩
               first | (have hW2 : Below wr.heap.size wr w2 := bel_stp (bel_drew (Below.refl wr.heap.size wr)) hb2) | (have hW2 : Below wr.heap.size wr w2 := bel_stp (bel_drew (bel_alloc (Below.refl wr.heap.size wr) _)) hb2)
               have i2 := HIr.out.stp hW2
               have y0 := i2.pin.cell; have y1 := i2.pday.cell
               have ltW := i2.pin.lt; have ltW' := i2.pday.lt
               have nW1 : ¬ P = w2.heap.size := by omega
               have nW2 : ¬ w2.heap.size = P := by omega
               have nW3 : ¬ D = w2.heap.size := by omega
               have nW4 : ¬ w2.heap.size = D := by omega
               first | (have zz : Quad w2 wr.heap.size 41 (.int .i64 0) (.int .i64 0) (.int .i64 0) (.slice none 0 0) := ?_; rotate_left; (focus (refine Quad.stp ?_ hb2; refine Quad.drew ?_; refine Quad.new' _ _ _ _ _ _ _ ?_; rfl)); have z0 := zz.cell0; have z1 := zz.cell1; have z2 := zz.cell2; have z3 := zz.cell3; have u0 := zz.free 0; have u1 := zz.free 1; have u2 := zz.free 2; have u3 := zz.free 3) | skip)
            | fail)
          all_goals
            first
              | (have h3 := lvl_set (lim := lim) (.int .i64 s.bits) (.int .i64 s.hashes) (.int .i64 s.salt) (.slice (some ⟨g, 0, none⟩) s.b.length s.b.length) zz own (by simp) (by simp; omega) hW2 (Nat.le_refl _)
                 obtain ⟨qX, hX, oX⟩ := h3
                 generalize hXe : (((w2.setCell ⟨wr.heap.size, 0, none⟩ (.int .i64 s.bits)).setCell ⟨wr.heap.size, 1, none⟩ (.int .i64 s.hashes)).setCell ⟨wr.heap.size, 2, none⟩ (.int .i64 s.salt)).setCell ⟨wr.heap.size, 3, none⟩ (.slice (some ⟨g, 0, none⟩) s.b.length s.b.length) = X at qX hX oX ⊢
                 obtain ⟨G, hG⟩ : ∃ G, G = wr.heap.size := ⟨_, rfl⟩
                 rw [← hG] at qX ⊢
                 have hG1 : wr.heap.size ≤ G := by omega
                 clear hG hXe zz z0 z1 z2 z3 u0 u1 u2 u3)
              | (have qX := Quad.new w2 41 (.int .i64 s.bits) (.int .i64 s.hashes) (.int .i64 s.salt) (.slice (some ⟨g, 0, none⟩) s.b.length s.b.length)
                 have hX := bel_alloc hW2 (.cells #[.int .i64 s.bits, .int .i64 s.hashes, .int .i64 s.salt, .slice (some ⟨g, 0, none⟩) s.b.length s.b.length] 41)
                 have oX := owns_base (own.alloc (.cells #[.int .i64 s.bits, .int .i64 s.hashes, .int .i64 s.salt, .slice (some ⟨g, 0, none⟩) s.b.length s.b.length] 41)) (b' := lim) (by first | omega | (simp; omega))
                 generalize hXe : w2.alloc (.cells #[.int .i64 s.bits, .int .i64 s.hashes, .int .i64 s.salt, .slice (some ⟨g, 0, none⟩) s.b.length s.b.length] 41) = X at qX hX oX ⊢
                 have hG1 := hW2.size
                 obtain ⟨G, hG⟩ : ∃ G, G = w2.heap.size := ⟨_, rfl⟩
                 rw [← hG] at qX hG1 ⊢
                 clear hG hXe)
            gi_wp2
            gi_meet
            case rel => exact ⟨G, g, rfl, rfl, qX, hX, oX, hG1, hby⟩
        case rest =>
          obtain ⟨X, hXw⟩ : ∃ X, X = wc := ⟨_, rfl⟩
          subst hXw
          obtain ⟨G, g, rfl, rfl, qX, hX, oX, hG1, hby⟩ := hcut
          have hG2 := qX.lt
          clear p0 d0 q0 ltP ltD nP1 nP2 nD1 nD2
          have i3 := HIr.out.stp hX
          have hR : LvR day ins0 outs0 lim pre ⟨j, s, .slice (some ⟨g, 0, none⟩) s.b.length s.b.length, G⟩ wr X := by
            refine ⟨HPL.out.symm, by rw [HPL.out]; omega, ⟨oX, hby⟩, ⟨hG1, hG2⟩, fun h => HSt.out.none ?_⟩
            rw [HL.out, ← HPL.out, h]
          obtain ⟨fn, tmps, assign, body, hy0, hRd⟩ := hY pre _ wr X hJs hX hR
          have hy : (Instr.yield L #[.int .i64 j, .agg #[.int .i64 s.bits, .int .i64 s.hashes, .int .i64 s.salt, .slice (some ⟨g, 0, none⟩) s.b.length s.b.length, .int .i64 0]]).run Tryz.prog X = .ok (.round L fn tmps assign body) X := hy0
          clear hy0 hR hJs
          have c0 := qX.cell0; have c1 := qX.cell1; have c2 := qX.cell2; have c3 := qX.cell3
          gi_wp2
          refine hRd.mono ?_
          rintro e V' (⟨rfl, hJ', hK16, hK⟩ | ⟨rfl, hJx'⟩)
          · have hkeep := hK _ (List.getLast?_concat)
            have i4 := i3.keep hkeep
            have q4 : Quad V' G 41 (.int .i64 s.bits) (.int .i64 s.hashes) (.int .i64 s.salt) (.slice (some ⟨g, 0, none⟩) s.b.length s.b.length) := (hkeep.2 G hG2 (.inr (.inl ⟨rfl, _, _, _, qX⟩))).trans qX
            have hj16 : j < 16 := by have := HPL.out; simp at hK16; omega
            have og : V'.ownsRow lim 5 1 (.slice (some ⟨g, 0, none⟩) s.b.length s.b.length) s.b.length (s.b.map (Value.int .u8)) := by
              refine owns_kept oX ?_
              rcases oX.2 with ⟨h1, _⟩ | ⟨g', cap', cur, h1, _, hh, _⟩
              · cases h1
              · cases h1
                exact hkeep.2 _ (Array.getElem?_eq_some_iff.1 hh).1 (.inr (.inr ⟨_, _, _, hh, .inr (.inr rfl)⟩))
            have rg := owns_row og hby
            have hlV : lim ≤ V'.heap.size := Nat.le_trans hlr (Nat.le_trans hX.size hkeep.1)
            clear hRd hy hK16 hK c0 c1 c2 c3 hX oX qX i3 og hkeep
            have c0 := q4.cell0; have c1 := q4.cell1; have c2 := q4.cell2; have c3 := q4.cell3
            have p0 := i4.pin.cell; have q0 := i4.pout.cell; have fp := i4.pin.frozen; have fq := i4.pout.frozen
            have ltP := i4.pin.lt; have ltQ := i4.pout.lt
            have nPQ : ¬ Q = P := fun e => hPQ e.symm
            have hSo := fun (X' : World) (hX' : Below V'.heap.size V' X') => Some_any s _ _ outs X' (rg.below hX') (i4.rout.below hX') (by have := HSt.out.2.2.2.1; omega)
            obtain ⟨outs', ho'⟩ : ∃ outs', outs.filter (Sm.has s) = outs' := ⟨_, rfl⟩
            rw [ho'] at hSo
            have hwf' : ∀ x ∈ outs', (Lit.int .i64 x).wf = true := fun x hx => by rw [← ho'] at hx; exact i4.rout.wf x (List.mem_filter.1 hx).1
            have hnxt : (outs' = [] ∧ Cm.build day 16 0 ins0 outs0 = some ((pre ++ [(⟨j, s, .slice (some ⟨g, 0, none⟩) s.b.length s.b.length, G⟩ : Lvl)]).map (·.s))) ∨ (outs' ≠ [] ∧ LvSt day ins0 outs0 ((pre ++ [(⟨j, s, .slice (some ⟨g, 0, none⟩) s.b.length s.b.length, G⟩ : Lvl)]).map (·.s)) outs' ins) := by
              have e : (pre ++ [(⟨j, s, .slice (some ⟨g, 0, none⟩) s.b.length s.b.length, G⟩ : Lvl)]).map (·.s) = pre.map (·.s) ++ [s] := by simp
              rw [e]
              have h16 : (pre.map (·.s)).length < 16 := by rw [HL.out]; exact hj16
              have hfl : outs.filter (Sm.has (Cm.lv day (pre.map (·.s)).length ins)) = outs' := by rw [HL.out, HS.out]; exact ho'
              have hsl : Cm.lv day (pre.map (·.s)).length ins = s := by rw [HL.out]; exact HS.out
              by_cases hn : outs' = []
              · have := HSt.out.last h16 (hfl.trans hn)
                rw [hsl] at this
                exact .inl ⟨hn, this⟩
              · have := HSt.out.next h16 (by rw [hfl]; exact hn)
                rw [hsl] at this
                rw [hsl] at hfl
                rw [hfl] at this
                exact .inr ⟨hn, this⟩
            have HNx := Lib.hid hnxt; have HWf := Lib.hid hwf'
            clear hnxt hwf'
            have HO := Lib.hid ho'
            have RG := Lib.hid rg; have I4 := Lib.hid i4; have Q4 := Lib.hid q4
            clear rg i4 q4 ho'
            gi_wp2
            refine wpIn_wide.2 ?_
            go_region_with ((go_at_call 74; refine (hSo _ (by first | exact Below.refl _ _ | exact (Below.refl _ _).drew | exact bel_drewN (Below.refl _ _) _)).mono ?_; rintro e w5 ⟨v5, rfl, own5, hb5⟩; obtain ⟨a5, n5, c5, rfl⟩ := owns_slice own5; have hb6 : Below V'.heap.size V' w5 := ⟨hb5.os, hb5.tape, hb5.output, hb5.size, hb5.block⟩; have i5 := I4.out.stp hb6; have p5 := i5.pin.cell; have q5 := i5.pout.cell; have fp5 := i5.pin.frozen; have fq5 := i5.pout.frozen))
            all_goals
              have ht := lv_turn I4.out hb6 own5 HWf.out hPQ hbP hbQ
              have hn5 : n5 = outs'.length := by
                rcases own5.2 with ⟨h1, h2⟩ | ⟨g', cap', cur, h1, _⟩
                · cases h1; omega
                · cases h1; rfl
              subst hn5
              have hsz := (ht.2).size
              generalize (w5.setCell ⟨P, 0, none⟩ (.slice a5 outs'.length c5)).setCell ⟨Q, 0, none⟩ (.slice ai ins.length ci) = Y at ht hsz ⊢
              have HT := Lib.hid ht
              clear ht own5 hb5 hb6 i5 p5 q5 fp5 fq5 p0 q0 fp fq c0 c1 c2 c3 hSo
              gi_wp2
              go_roundw
              case rel =>
                refine ⟨j + 1, pre ++ [⟨j, s, .slice (some ⟨g, 0, none⟩) s.b.length s.b.length, G⟩], _, _, outs', ins, by go_num, by simp [HPL.out], by omega, hJ _ _ _ hJ' HT.out.2, HT.out.1, by omega, ?_⟩
                rcases HNx.out with ⟨h1, h2⟩ | ⟨h1, h2⟩
                · exact .inl ⟨h1, by simp, h2⟩
                · exact .inr ⟨.inr h1, h2⟩
              case measure => simp [intOf]; omega
          · gi_wp2
            refine bodyPost_ret (results_none rfl _ _ _) rfl ⟨⟨_, rfl⟩, .inr ⟨_, trivial, hJx'⟩⟩
end Go.Proofs.YtfdchdnkblmijaaGreatDoor
end

section
namespace Go.Proofs.YtfdchdnkblmijaaGreatDoor
open Go.RowKit

/-- Results: an aggregate and a number, both in memory. -/
theorem results_agg_cell {P : Program} {fn : Func} {p q : Tmp} {t1 t2 : TypeId} (h : fn.results = #[.cell p t1, .cell q t2]) (tmps : Array Value) (w : World) (g1 g2 : Nat) (t' e2 : TypeId) (cs : Array Value) (fr : Nat × Nat) (v2 : Value) (d d2 : TypeDesc)
    (hp : tmps.getD p undef = .pointer (some ⟨g1, 0, none⟩)) (hg : w.heap[g1]? = some (.cells cs t' fr)) (hu : P.underlying t1 = some d) (hd : (match d with | .struct _ | .array _ _ => true | _ => false) = true) (hi : (P.info? t1).map (·.size) = some cs.size)
    (hq : tmps.getD q undef = .pointer (some ⟨g2, 0, none⟩)) (hg2 : Boxed w g2 e2 v2) (hu2 : P.underlying t2 = some d2) (hd2 : (match d2 with | .struct _ | .array _ _ => true | _ => false) = false) :
    (results fn tmps).run P w = .ok (.tuple #[.agg cs, v2]) w := by
  have hp' : tmps[p]?.getD undef = .pointer (some ⟨g1, 0, none⟩) := by simpa using hp
  have hq' : tmps[q]?.getD undef = .pointer (some ⟨g2, 0, none⟩) := by simpa using hq
  have hl : (loadVar t2 ⟨g2, 0, none⟩).run P w = .ok v2 w := by
    have hagg : (isAgg t2).run P w = .ok false w := by
      unfold isAgg
      rw [Sem.run_bind, run_underlying hu2 w]
      cases d2 <;> simp_all
    have hc := hg2.cell
    simp [loadVar, Sem.run_bind, hagg]
    simp [hc]
  simp [results, h, hp', hq', asAddr, run_loadVar_row w g1 t' t1 cs fr d hg hu hd hi, hl]
theorem casc_ret {tmps : Array Value} {W : World} {C E : Nat} {fn : Func} {p q : Tmp} (hr : fn.results = #[.cell p 24, .cell q 28]) (hp : tmps.getD p undef = .pointer (some ⟨C, 0, none⟩)) (hq : tmps.getD q undef = .pointer (some ⟨E, 0, none⟩)) {x y z : Value}
    (hd : Duo W C 24 x y) (he : Boxed W E 28 z) : (results fn tmps).run Tryz.prog W = .ok (.tuple #[.agg #[x, y], z]) W :=
  results_agg_cell hr _ _ C E _ _ _ _ _ _ _ hp hd Tryz.underlying24 rfl (by kernel_rfl) hq he Tryz.underlying28 rfl

/-- What Make hands back where there is none. -/
def NoCasc (w w' : World) (e : Ending) (c : Int) : Prop := e = .returned (.tuple #[.agg #[.int .i64 0, .slice none 0 0], .int .i64 c]) ∧ Below w.heap.size w w'

set_option maxRecDepth 100000 in
set_option maxHeartbeats 2000000 in
theorem Make_arg (vi vo : Value) (ins outs : List Int) (day : Int) (w : World) (hi : Row .i64 w vi ins) (ho : Row .i64 w vo outs) (hil : ins.length ≤ 1000000) (hol : outs.length ≤ 1000000) (hno : ¬ (NumOk ins ∧ NumOk outs ∧ Cm.dated day)) :
    Calls Tryz.prog 11 #[vi, vo, .int .i64 day] w fun e w' => NoCasc w w' e 1 := by
  obtain ⟨ai, ci, rfl⟩ := hi.shape ins.length rfl
  obtain ⟨ao, co, rfl⟩ := ho.shape outs.length rfl
  obtain ⟨C, hC⟩ : ∃ C, w.heap.size = C := ⟨_, rfl⟩
  have q0 := (Duo.new w 24 (.int .i64 0) (.slice none 0 0)).alloc (.cells #[.int .i64 0] 28)
  have e0 := Boxed.new (w.alloc (.cells #[.int .i64 0, .slice none 0 0] 24)) 28 (.int .i64 0)
  have hb0 := ((Below.refl w.heap.size w).alloc (Nat.le_refl _) (.cells #[.int .i64 0, .slice none 0 0] 24)).alloc (by simp) (.cells #[.int .i64 0] 28)
  have ri := (hi.alloc (.cells #[.int .i64 0, .slice none 0 0] 24)).alloc (.cells #[.int .i64 0] 28)
  have ro := (ho.alloc (.cells #[.int .i64 0, .slice none 0 0] 24)).alloc (.cells #[.int .i64 0] 28)
  rw [hC] at q0
  rw [World.size_alloc, hC] at e0
  obtain ⟨W, hW⟩ : ∃ W, (w.alloc (.cells #[.int .i64 0, .slice none 0 0] 24)).alloc (.cells #[.int .i64 0] 28) = W := ⟨_, rfl⟩
  rw [hW] at q0 e0 hb0 ri ro
  have hN := fun (v : Value) (l : List Int) (h : Row .i64 W v l) (hl : l.length ≤ 1000000) => numbers_any v l W h hl
  have HW := Lib.hid hW; have HC := Lib.hid hC
  have RI := Lib.hid ri; have RO := Lib.hid ro
  clear hi ho ri ro hW hC
  have c0 := q0.cell0; have c1 := q0.cell1; have f0 := q0.free 0; have f1 := q0.free 1; have ce := e0.cell; have fe := e0.frozen
  have nCE : ¬ C = C + 1 := by omega
  have nEC : ¬ C + 1 = C := by omega
  have qz := ((q0.set0 (.int .i64 0)).set1 (.slice none 0 0)).other (p := ⟨C + 1, 0, none⟩) (by simp) (.int .i64 1)
  have ez := Boxed.set (.int .i64 1) (show Boxed ((W.setCell ⟨C, 0, none⟩ (.int .i64 0)).setCell ⟨C, 1, none⟩ (.slice none 0 0)) (C + 1) 28 (.int .i64 0) from boxed_other (boxed_other e0 nEC 0 _) nEC 1 _)
  have hbz : Below w.heap.size w (((W.setCell ⟨C, 0, none⟩ (.int .i64 0)).setCell ⟨C, 1, none⟩ (.slice none 0 0)).setCell ⟨C + 1, 0, none⟩ (.int .i64 1)) :=
    ((hb0.setCell (by rw [HC.out]; simp) _).setCell (by rw [HC.out]; simp) _).setCell (by rw [HC.out]; simp) _
  have QZ := Lib.hid qz; have EZ := Lib.hid ez; have HBZ := Lib.hid hbz
  clear qz ez hbz nCE nEC
  by_cases h1 : NumOk ins
  · by_cases h2 : NumOk outs
    · have h3 : ¬ Cm.dated day := fun h => hno ⟨h1, h2, h⟩
      have k1 := hN _ ins RI.out hil
      have k2 := hN _ outs RO.out hol
      have k3 := dated_any day W
      rw [decide_eq_true h1] at k1
      rw [decide_eq_true h2] at k2
      rw [decide_eq_false h3] at k3
      clear h1 h2 h3 hno hN
      go_enter Tryz.func11, Tryz.ntmps11
      go_wp2_with fail
      rw [HW.out]
      (try rw [HC.out])
      refine wp_scope_straight ?_
      go_wp2_with fail
      refine k1.mono ?_; rintro e w1 ⟨rfl, rfl⟩
      go_wp2_with fail
      refine k2.mono ?_; rintro e w1 ⟨rfl, rfl⟩
      go_wp2_with fail
      refine k3.mono ?_; rintro e w1 ⟨rfl, rfl⟩
      go_wp2_with fail
      rw [Exit.noGoto_ret]
      exact bodyPost_ret (casc_ret rfl rfl rfl QZ.out EZ.out) rfl ⟨rfl, by first | exact HBZ.out | (rw [← HC.out]; exact HBZ.out)⟩
    · have k1 := hN _ ins RI.out hil
      have k2 := hN _ outs RO.out hol
      rw [decide_eq_true h1] at k1
      rw [decide_eq_false h2] at k2
      clear h1 h2 hno hN
      go_enter Tryz.func11, Tryz.ntmps11
      go_wp2_with fail
      rw [HW.out]
      (try rw [HC.out])
      refine wp_scope_straight ?_
      go_wp2_with fail
      refine k1.mono ?_; rintro e w1 ⟨rfl, rfl⟩
      go_wp2_with fail
      refine k2.mono ?_; rintro e w1 ⟨rfl, rfl⟩
      go_wp2_with fail
      rw [Exit.noGoto_ret]
      exact bodyPost_ret (casc_ret rfl rfl rfl QZ.out EZ.out) rfl ⟨rfl, by first | exact HBZ.out | (rw [← HC.out]; exact HBZ.out)⟩
  · have k1 := hN _ ins RI.out hil
    rw [decide_eq_false h1] at k1
    clear h1 hno hN
    go_enter Tryz.func11, Tryz.ntmps11
    go_wp2_with fail
    rw [HW.out]
    (try rw [HC.out])
    refine wp_scope_straight ?_
    go_wp2_with fail
    refine k1.mono ?_; rintro e w1 ⟨rfl, rfl⟩
    go_wp2_with fail
    rw [Exit.noGoto_ret]
    exact bodyPost_ret (casc_ret rfl rfl rfl QZ.out EZ.out) rfl ⟨rfl, by first | exact HBZ.out | (rw [← HC.out]; exact HBZ.out)⟩
end Go.Proofs.YtfdchdnkblmijaaGreatDoor
end

section
namespace Go.Proofs.YtfdchdnkblmijaaGreatDoor
open Go.RowKit

/-- The numbers of ins from k on are still to be sought, in the rest r of outs. -/
def Seek (ins outs : List Int) (k : Nat) (r : List Int) : Prop := (∃ p, outs = p ++ r ∧ ∀ y ∈ p, ∀ i, k ≤ i → i < ins.length → y < ins[i]?.getD 0) ∧ ∀ i, i < k → i < ins.length → ins[i]?.getD 0 ∉ outs
theorem Seek.start (ins outs : List Int) : Seek ins outs 0 outs := ⟨⟨[], rfl, by simp⟩, fun i hi => by omega⟩
theorem rises_lt {l : List Int} (h : Rv.rises l) {i j : Nat} (hij : i < j) (hj : j < l.length) : l[i]?.getD 0 < l[j]?.getD 0 := by
  have := List.pairwise_iff_getElem.1 h.2 i j (by omega) hj hij
  rw [List.getElem?_eq_getElem hj, List.getElem?_eq_getElem (show i < l.length by omega)]
  exact this
theorem Seek.skip {ins outs r : List Int} {k : Nat} {y : Int} (h : Seek ins outs k (y :: r)) (hs : Rv.rises ins) (hk : k < ins.length) (hy : y < ins[k]?.getD 0) : Seek ins outs k r := by
  obtain ⟨⟨p, e, hp⟩, h2⟩ := h
  refine ⟨⟨p ++ [y], by rw [e]; simp, fun z hz i hi hl => ?_⟩, h2⟩
  rcases List.mem_append.1 hz with hz | hz
  · exact hp z hz i hi hl
  · rw [List.mem_singleton.1 hz]
    rcases Nat.lt_or_ge k i with h | h
    · have := rises_lt hs h hl; omega
    · obtain rfl : i = k := by omega
      exact hy
theorem Seek.next {ins outs r : List Int} {k : Nat} {y : Int} (h : Seek ins outs k (y :: r)) (hs : Rv.rises outs) (hk : k < ins.length) (hy : ins[k]?.getD 0 < y) : Seek ins outs (k + 1) (y :: r) := by
  obtain ⟨⟨p, e, hp⟩, h2⟩ := h
  refine ⟨⟨p, e, fun z hz i hi hl => hp z hz i (by omega) hl⟩, fun i hi hl => ?_⟩
  rcases Nat.lt_or_ge i k with h | h
  · exact h2 i h hl
  · obtain rfl : i = k := by omega
    intro hm
    rw [e] at hm hs
    have hpw := (List.pairwise_append.1 hs.2).2.1
    rcases List.mem_append.1 hm with hm | hm
    · have := hp _ hm i (Nat.le_refl _) hl; omega
    · rcases List.mem_cons.1 hm with hm | hm
      · omega
      · have := List.rel_of_pairwise_cons hpw hm; omega
theorem Seek.done {ins outs r : List Int} (h : Seek ins outs ins.length r) : Cm.disjoint ins outs := fun x hx => by
  obtain ⟨i, hi, rfl⟩ := List.getElem_of_mem hx
  have := h.2 i hi hi
  rwa [List.getElem?_eq_getElem hi] at this
theorem Seek.none {ins outs : List Int} {k : Nat} (h : Seek ins outs k []) : Cm.disjoint ins outs := fun x hx hm => by
  obtain ⟨i, hi, rfl⟩ := List.getElem_of_mem hx
  obtain ⟨⟨p, e, hp⟩, h2⟩ := h
  rw [List.append_nil] at e
  rcases Nat.lt_or_ge i k with h | h
  · have := h2 i h hi
    rw [List.getElem?_eq_getElem hi] at this
    exact this hm
  · rw [e] at hm
    have := hp _ hm i h hi
    rw [List.getElem?_eq_getElem hi] at this
    simp at this
theorem Seek.found {ins outs r : List Int} {k : Nat} {y : Int} (h : Seek ins outs k (y :: r)) (hk : k < ins.length) (hy : ins[k]?.getD 0 = y) : ¬ Cm.disjoint ins outs := fun hd => by
  obtain ⟨⟨p, e, hp⟩, h2⟩ := h
  rw [List.getElem?_eq_getElem hk] at hy
  refine hd _ (List.getElem_mem hk) ?_
  rw [show ins[k] = y from hy, e]
  simp

set_option maxRecDepth 100000 in
set_option maxHeartbeats 4000000 in
theorem Make_many (vi vo : Value) (ins outs : List Int) (day : Int) (w : World) (hi : Row .i64 w vi ins) (ho : Row .i64 w vo outs) (hil : ins.length ≤ 1000000) (hol : outs.length ≤ 1000000) (h1 : NumOk ins) (h2 : NumOk outs) (h3 : Cm.dated day) (hno : ¬ Cm.disjoint ins outs) :
    Calls Tryz.prog 11 #[vi, vo, .int .i64 day] w fun e w' => NoCasc w w' e 100 := by
  obtain ⟨ai, ci, rfl⟩ := hi.shape ins.length rfl
  obtain ⟨ao, co, rfl⟩ := ho.shape outs.length rfl
  obtain ⟨C, hC⟩ : ∃ C, w.heap.size = C := ⟨_, rfl⟩
  have q0 := (Duo.new w 24 (.int .i64 0) (.slice none 0 0)).alloc (.cells #[.int .i64 0] 28)
  have e0 := Boxed.new (w.alloc (.cells #[.int .i64 0, .slice none 0 0] 24)) 28 (.int .i64 0)
  have hb0 := ((Below.refl w.heap.size w).alloc (Nat.le_refl _) (.cells #[.int .i64 0, .slice none 0 0] 24)).alloc (by simp) (.cells #[.int .i64 0] 28)
  have ri := (hi.alloc (.cells #[.int .i64 0, .slice none 0 0] 24)).alloc (.cells #[.int .i64 0] 28)
  have ro := (ho.alloc (.cells #[.int .i64 0, .slice none 0 0] 24)).alloc (.cells #[.int .i64 0] 28)
  rw [hC] at q0
  rw [World.size_alloc, hC] at e0
  obtain ⟨W, hW⟩ : ∃ W, (w.alloc (.cells #[.int .i64 0, .slice none 0 0] 24)).alloc (.cells #[.int .i64 0] 28) = W := ⟨_, rfl⟩
  rw [hW] at q0 e0 hb0 ri ro
  have k1 := numbers_any _ ins W ri hil
  have k2 := numbers_any _ outs W ro hol
  have k3 := dated_any day W
  rw [decide_eq_true h1] at k1
  rw [decide_eq_true h2] at k2
  rw [decide_eq_true h3] at k3
  have HW := Lib.hid hW; have HC := Lib.hid hC
  have RI := Lib.hid ri; have RO := Lib.hid ro
  clear hi ho ri ro hW hC
  have c0 := q0.cell0; have c1 := q0.cell1; have f0 := q0.free 0; have f1 := q0.free 1; have ce := e0.cell; have fe := e0.frozen
  have nEC : ¬ C + 1 = C := by omega
  have qz := ((q0.set0 (.int .i64 0)).set1 (.slice none 0 0)).other (p := ⟨C + 1, 0, none⟩) (by simp) (.int .i64 100)
  have ez := Boxed.set (.int .i64 100) (show Boxed ((W.setCell ⟨C, 0, none⟩ (.int .i64 0)).setCell ⟨C, 1, none⟩ (.slice none 0 0)) (C + 1) 28 (.int .i64 0) from boxed_other (boxed_other e0 nEC 0 _) nEC 1 _)
  have hbz : Below w.heap.size w (((W.setCell ⟨C, 0, none⟩ (.int .i64 0)).setCell ⟨C, 1, none⟩ (.slice none 0 0)).setCell ⟨C + 1, 0, none⟩ (.int .i64 100)) :=
    ((hb0.setCell (by rw [HC.out]; simp) _).setCell (by rw [HC.out]; simp) _).setCell (by rw [HC.out]; simp) _
  have QZ := Lib.hid qz; have EZ := Lib.hid ez; have HBZ := Lib.hid hbz
  have H1 := Lib.hid h1; have H2 := Lib.hid h2; have HNO := Lib.hid hno
  clear qz ez hbz nEC h1 h2 h3 hno
  go_enter Tryz.func11, Tryz.ntmps11
  go_wp2_with fail
  rw [HW.out]
  (try rw [HC.out])
  refine wp_scope_straight ?_
  go_wp2_with fail
  refine k1.mono ?_; rintro e w1 ⟨rfl, rfl⟩
  go_wp2_with fail
  refine k2.mono ?_; rintro e w1 ⟨rfl, rfl⟩
  go_wp2_with fail
  refine k3.mono ?_; rintro e w1 ⟨rfl, rfl⟩
  clear k1 k2 k3
  go_wp2_with fail
  go_step3
  go_wp2_with fail
  go_loop [8, 30] (fun o i => ∃ (k : Nat) (r : List Int), i = .int .i64 k ∧ k ≤ ins.length ∧ Row .i64 W o r ∧ r.length ≤ 1000000 ∧ Seek ins outs k r) (fun _ i => ins.length - (intOf i).toNat)
  case atStart => exact ⟨0, outs, rfl, Nat.zero_le _, RO.out, hol, Seek.start _ _⟩
  case round =>
    obtain ⟨k, r, rfl, hk, hr, hrl, hS⟩ := hrel
    have HR := Lib.hid hr; have HS := Lib.hid hS
    have k0 : (0 : Int) ≤ (k : Int) := by omega
    have e1 : IntKind.i64.wrap ((k : Int) + 1) = (k : Int) + 1 := IntWalk.i64_in _ (by omega)
    obtain ⟨ar, cr, rfl⟩ := hr.shape r.length rfl
    clear hr hS
    by_cases hlt : k < ins.length
    · obtain ⟨_, _, e', _, _, _, _, h5⟩ := RI.out
      cases e'
      obtain ⟨b0, o0, rfl, hb00, hc0⟩ := h5 (by rintro rfl; simp at hlt)
      have hck := hc0 k hlt
      obtain ⟨x, hx⟩ : ∃ x, ins[k]?.getD 0 = x := ⟨_, rfl⟩
      rw [hx] at hck
      have HX := Lib.hid hx
      have k1 : (k : Int) < (ins.length : Int) := by omega
      clear hc0 h5 hx
      go_wp2_with fail
      go_loop [8, 37, 44] (fun o _ _ => ∃ r' : List Int, Row .i64 W o r' ∧ r'.length ≤ 1000000 ∧ Seek ins outs k r') (fun o _ _ => lenOf o)
      case atStart => exact ⟨r, HR.out, hrl, HS.out⟩
      case round =>
        obtain ⟨r', hr', hrl', hS'⟩ := hrel
        have HR' := Lib.hid hr'; have HS' := Lib.hid hS'
        obtain ⟨ar', cr', rfl⟩ := hr'.shape r'.length rfl
        clear hr' hS'
        cases r' with
        | nil => exact absurd HS'.out.none HNO.out
        | cons y t =>
          obtain ⟨_, _, e', hlc, hcm, _, _, h5⟩ := HR'.out
          cases e'
          obtain ⟨b1, o1, rfl, hb11, hc1⟩ := h5 (by simp)
          have hcy := hc1 0 (by simp)
          simp only [List.getElem?_cons_zero, Option.getD_some, Nat.add_zero] at hcy
          have hlen : (y :: t).length = t.length + 1 := rfl
          have ht1 : (0 : Int) < ((y :: t).length : Int) := by rw [hlen]; omega
          have e2 : (y :: t).length - 1 = t.length := rfl
          clear hc1 h5
          by_cases hxy : y = x
          · subst hxy
            go_wp2_with fail
            exact bodyPost_ret (casc_ret rfl rfl rfl QZ.out EZ.out) rfl ⟨rfl, by first | exact HBZ.out | (rw [← HC.out]; exact HBZ.out)⟩
          · by_cases hyx : x < y
            · have HN := Lib.hid (HS'.out.next H2.out.1 hlt (by rw [HX.out]; exact hyx))
              go_wp2_with fail
              go_round
              case rel => exact ⟨k + 1, y :: t, by go_num, by omega, HR'.out, hrl', HN.out⟩
              case measure => simp [intOf]; omega
            · have HN := Lib.hid (HS'.out.skip H1.out.1 hlt (by rw [HX.out]; omega))
              have hyx' : ¬ y = x := hxy
              by_cases hc1 : cr' = 1
              · have HT := Lib.hid (HR'.out.cut_all 1 (by rw [hlen]; omega) (by omega))
                go_wp2_with fail
                go_round
                case rel => exact ⟨t, HT.out, by rw [hlen] at hrl'; omega, HN.out⟩
                case measure => simp [lenOf]
              · have HT := Lib.hid (HR'.out.cut 1 (by rw [hlen]; omega) (by rw [hlen] at hlc; omega))
                go_wp2_with fail
                go_round
                case rel => exact ⟨t, HT.out, by rw [hlen] at hrl'; omega, HN.out⟩
                case measure => simp [lenOf]
    · obtain rfl : k = ins.length := by omega
      exact absurd HS.out.done HNO.out
end Go.Proofs.YtfdchdnkblmijaaGreatDoor
end

section
namespace Go.Proofs.YtfdchdnkblmijaaGreatDoor
open Go.RowKit

/-- The cells of levels, one behind the other. -/
def levelCells (pre : List Lvl) : List Value := pre.flatMap fun x => [.int .i64 x.s.bits, .int .i64 x.s.hashes, .int .i64 x.s.salt, x.vb]
theorem levelCells_snoc (pre : List Lvl) (x : Lvl) : levelCells (pre ++ [x]) = levelCells pre ++ [.int .i64 x.s.bits, .int .i64 x.s.hashes, .int .i64 x.s.salt, x.vb] := by simp [levelCells]
theorem levelCells_get : ∀ (pre : List Lvl) (i : Nat) (h : i < pre.length), (levelCells pre)[i * 4]? = some (.int .i64 pre[i].s.bits) ∧ (levelCells pre)[i * 4 + 1]? = some (.int .i64 pre[i].s.hashes) ∧ (levelCells pre)[i * 4 + 2]? = some (.int .i64 pre[i].s.salt) ∧ (levelCells pre)[i * 4 + 3]? = some pre[i].vb
  | [], _, h => by simp at h
  | x :: pre, 0, _ => by simp [levelCells]
  | x :: pre, i + 1, h => by
    have ih := levelCells_get pre i (by simpa using h)
    have e : levelCells (x :: pre) = [.int .i64 x.s.bits, .int .i64 x.s.hashes, .int .i64 x.s.salt, x.vb] ++ levelCells pre := by simp [levelCells]
    have key : ∀ j, (levelCells (x :: pre))[(i + 1) * 4 + j]? = (levelCells pre)[i * 4 + j]? := fun j => by
      rw [e, List.getElem?_append_right (by simp; omega)]
      congr 1
      simp; omega
    refine ⟨?_, ?_, ?_, ?_⟩
    · have := key 0; simp only [Nat.add_zero] at this; rw [this]; exact ih.1
    · rw [key 1]; exact ih.2.1
    · rw [key 2]; exact ih.2.2.1
    · rw [key 3]; exact ih.2.2.2

/-- A step that turns no cells but those of the blocks Bs, and nothing of what lay in w. -/
structure Sts (w : World) (Bs : Nat → Prop) (W V : World) : Prop where
  os : V.os = W.os
  tape : V.tape = W.tape
  output : V.output = W.output
  size : W.heap.size ≤ V.heap.size
  low : ∀ k, k < w.heap.size → k < W.heap.size → V.heap[k]? = W.heap[k]?
  cells : ∀ k cs t f, W.heap[k]? = some (.cells cs t f) → ¬ Bs k → V.heap[k]? = some (.cells cs t f)
theorem Sts.of_only {w : World} {Bs : Nat → Prop} {W V : World} (h : Only Bs W V) (hb : ∀ k, Bs k → w.heap.size ≤ k) : Sts w Bs W V :=
  ⟨h.os, h.tape, h.output, h.size, fun k hk hl => h.block k hl (fun hk2 => by have := hb k hk2; omega), fun k _ _ _ hc hn => (h.block k (Array.getElem?_eq_some_iff.1 hc).1 hn).trans hc⟩
theorem Sts.of_grown {w : World} {B : Nat} {W V : World} {row : Option Nat} (hg : W.grownBy V row) (hr : ∀ r, row = some r → B ≤ r ∧ ∃ o : Obj, W.heap[r]? = some o ∧ o.isCells = false) (hB : w.heap.size ≤ B) : Sts w (fun _ => False) W V :=
  ⟨hg.os, hg.tape, hg.output, hg.size, fun k hk hl => hg.block k hl (fun e => by have := (hr k e.symm).1; omega), fun k _ _ _ hc _ => cells_kept hc hg (fun r e => (hr r e).2)⟩
theorem Sts.of_below {w W V : World} (h : Below W.heap.size W V) : Sts w (fun _ => False) W V :=
  ⟨h.os, h.tape, h.output, h.size, fun k _ hl => h.block k hl, fun k _ _ _ hc _ => (h.block k (Array.getElem?_eq_some_iff.1 hc).1).trans hc⟩
theorem Sts.mono {w : World} {Bs Cs : Nat → Prop} {W V : World} (h : Sts w Bs W V) (hbc : ∀ k, Bs k → Cs k) : Sts w Cs W V :=
  ⟨h.os, h.tape, h.output, h.size, h.low, fun k cs t f hc hn => h.cells k cs t f hc (fun hb => hn (hbc k hb))⟩
theorem owns_sts {w W V : World} {Bs : Nat → Prop} {base n size : Nat} {e : TypeId} {v : Value} {xs : List Value} (h : W.ownsRow base e size v n xs) (hs : Sts w Bs W V) (hb : ∀ k, Bs k → k < base) : V.ownsRow base e size v n xs := by
  refine ⟨h.1, ?_⟩
  rcases h.2 with h1 | ⟨g, cap, cur, rfl, hg, hh, r⟩
  · exact .inl h1
  · exact .inr ⟨g, cap, cur, rfl, hg, hs.cells g _ _ _ hh (fun hk => by have := hb g hk; omega), r⟩

/-- What Make holds behind the levels pre: the cascade so far, the code, the levels' bytes. -/
structure MkI (w : World) (C E : Nat) (day : Int) (lim : Nat) (pre : List Lvl) (W : World) : Prop where
  lv : ∃ v, Duo W C 24 (.int .i64 day) v ∧ W.ownsRow lim 41 4 v pre.length (levelCells pre)
  e : Boxed W E 28 (.int .i64 0)
  own : ∀ x ∈ pre, Own8 W lim x
  bel : Below w.heap.size w W
  sz : lim ≤ W.heap.size
theorem MkI.sts {w W V : World} {Bs : Nat → Prop} {C E lim : Nat} {day : Int} {pre : List Lvl} (h : MkI w C E day lim pre W) (hs : Sts w Bs W V) (hb : ∀ k, Bs k → k < lim) (hC : ¬ Bs C) (hE : ¬ Bs E) : MkI w C E day lim pre V := by
  obtain ⟨v, hd, ho⟩ := h.lv
  refine ⟨⟨v, hs.cells C _ _ _ hd hC, owns_sts ho hs hb⟩, hs.cells E _ _ _ h.e hE, fun x hx => ⟨owns_sts (h.own x hx).1 hs hb, (h.own x hx).2⟩, ?_, Nat.le_trans h.sz hs.size⟩
  exact ⟨hs.os.trans h.bel.os, hs.tape.trans h.bel.tape, hs.output.trans h.bel.output, Nat.le_trans h.bel.size hs.size, fun k hk => (hs.low k hk (Nat.lt_of_lt_of_le hk h.bel.size)).trans (h.bel.block k hk)⟩
/-- What Make holds where there is none: the answer. -/
structure MkX (w : World) (C E : Nat) (W : World) : Prop where
  c : Duo W C 24 (.int .i64 0) (.slice none 0 0)
  e : Boxed W E 28 (.int .i64 2)
  bel : Below w.heap.size w W
theorem MkX.sts {w W V : World} {Bs : Nat → Prop} {C E : Nat} (h : MkX w C E W) (hs : Sts w Bs W V) (hC : ¬ Bs C) (hE : ¬ Bs E) : MkX w C E V :=
  ⟨hs.cells C _ _ _ h.c hC, hs.cells E _ _ _ h.e hE, ⟨hs.os.trans h.bel.os, hs.tape.trans h.bel.tape, hs.output.trans h.bel.output, Nat.le_trans h.bel.size hs.size, fun k hk => (hs.low k hk (Nat.lt_of_lt_of_le hk h.bel.size)).trans (h.bel.block k hk)⟩⟩
/-- The levels as a slice of sieves. -/
theorem svs_of {W : World} {lim : Nat} {v : Value} {pre : List Lvl} (ho : W.ownsRow lim 41 4 v pre.length (levelCells pre)) (h8 : ∀ x ∈ pre, Own8 W lim x) : Svs W v (pre.map (·.s)) := by
  have hl : (pre.map (·.s)).length = pre.length := List.length_map ..
  rcases ho.2 with ⟨rfl, h0⟩ | ⟨g, cap, cur, rfl, hg, hh, hnc, hcm, hcs, ht⟩
  · obtain rfl : pre = [] := List.length_eq_zero_iff.1 h0
    exact Svs.nil _
  · refine ⟨some ⟨g, 0, none⟩, cap, by rw [hl], by rw [hl]; exact hnc, hcm, (by simp), fun _ => ⟨g, 0, rfl, (Array.getElem?_eq_some_iff.1 hh).1, fun i hi => ?_⟩⟩
    rw [hl] at hi
    have hx : (pre.map (·.s))[i]?.getD Cm.nil = pre[i].s := by rw [List.getElem?_map, List.getElem?_eq_getElem hi]; rfl
    have cell : ∀ (k : Nat) (u : Value), (levelCells pre)[k]? = some u → W.cell? ⟨g, k, none⟩ = some u := fun k u hu => by
      have := ho.cells (g := g) rfl k u hu
      rw [addr_add] at this
      simpa using this
    obtain ⟨k0, k1, k2, k3⟩ := levelCells_get pre i hi
    obtain ⟨o8, by8⟩ := h8 _ (List.getElem_mem hi)
    rw [hx]
    simp only [Nat.zero_add]
    exact ⟨pre[i].vb, owns_row o8 by8, cell _ _ k0, cell _ _ k1, cell _ _ k2, cell _ _ k3⟩
/-- A slice of sieves whose memory, and that of its bytes, lies at n or beyond. -/
def PastS (n : Nat) (w : World) (v : Value) (ls : List Sm.Sv) : Prop := ∀ b o l c, v = .slice (some ⟨b, o, none⟩) l c → ∀ i, i < ls.length → n ≤ b ∧ ∀ vb, w.cell? ⟨b, o + i * 4 + 3, none⟩ = some vb → ∀ b' o' l' c', vb = .slice (some ⟨b', o', none⟩) l' c' → n ≤ b'
theorem pasts_of {W : World} {lim n : Nat} {v : Value} {pre : List Lvl} (ho : W.ownsRow lim 41 4 v pre.length (levelCells pre)) (h8 : ∀ x ∈ pre, Own8 W lim x) (hn : n ≤ lim) : PastS n W v (pre.map (·.s)) := by
  intro b o l c e i hi
  rw [List.length_map] at hi
  rcases ho.2 with ⟨h1, _⟩ | ⟨g, cap, cur, h1, hg, hh, hnc, hcm, hcs, ht⟩
  · rw [h1] at e; cases e
  · rw [h1] at e; cases e
    refine ⟨Nat.le_trans hn hg, fun vb hvb b' o' l' c' e' => ?_⟩
    have hc := ho.cells (g := b) (by rw [h1]; rfl) (i * 4 + 3) pre[i].vb (levelCells_get pre i hi).2.2.2
    rw [addr_add, Nat.zero_add] at hc
    rw [Nat.zero_add, hc] at hvb
    cases hvb
    obtain ⟨o8, _⟩ := h8 _ (List.getElem_mem hi)
    rcases o8.2 with ⟨h2, _⟩ | ⟨g', cap', cur', h2, hg', _⟩
    · rw [h2] at e'; cases e'
    · rw [h2] at e'; cases e'
      exact Nat.le_trans hn hg'
theorem Svs.aside {w : World} {v : Value} {ls : List Sm.Sv} {n : Nat} (h : Svs w v ls) (hp : PastS n w v ls) {p : Addr} (hlt : p.block < n) (u : Value) : Svs (w.setCell p u) v ls ∧ PastS n (w.setCell p u) v ls := by
  obtain ⟨a, cap, h1, h2, h3, h0, h5⟩ := h
  have far : ∀ {b o : Nat}, n ≤ b → (w.setCell p u).cell? ⟨b, o, none⟩ = w.cell? ⟨b, o, none⟩ := fun {b o} hb => World.cell?_setCell_other w p ⟨b, o, none⟩ u (fun e => by subst e; exact absurd hb (Nat.not_le.2 hlt))
  refine ⟨⟨a, cap, h1, h2, h3, h0, fun hne => ?_⟩, fun b o l c e i hi => ?_⟩
  · obtain ⟨b, off, e, hb, hc⟩ := h5 hne
    refine ⟨b, off, e, by simpa using hb, fun i hi => ?_⟩
    obtain ⟨vb, r, k0, k1, k2, k3⟩ := hc i hi
    obtain ⟨hnb, hvb⟩ := hp b off _ _ (by rw [h1, e]) i hi
    exact ⟨vb, r.aside (fun b' o' l' c' e' _ => by have := hvb vb k3 b' o' l' c' e'; omega) u, (far hnb).trans k0, (far hnb).trans k1, (far hnb).trans k2, (far hnb).trans k3⟩
  · obtain ⟨hnb, hvb⟩ := hp b o l c e i hi
    exact ⟨hnb, fun vb hv => hvb vb ((far hnb).symm.trans hv)⟩
theorem setCell_self {X : World} {g o : Nat} {cs : Array Value} {t : TypeId} {f : Nat × Nat} {v : Value} (h : X.heap[g]? = some (.cells cs t f)) (hv : cs[o]? = some v) : X.setCell ⟨g, o, none⟩ v = X := by
  rw [Sort.setCell_eq]
  refine Sort.mapBlock_id X g _ fun c e fr hc => ?_
  rw [h] at hc
  cases hc
  obtain ⟨hlt, rfl⟩ := Array.getElem?_eq_some_iff.1 hv
  show cs.setIfInBounds o cs[o] = cs
  refine Array.ext (by simp) fun i h1 h2 => ?_
  rw [Array.getElem_setIfInBounds]
  split
  · rename_i e; subst e; rfl
  · rfl
theorem info_sieve : (Tryz.prog.info? 41).map (fun i => (i.zero, i.size, i.bytes)) = some (some (.agg #[.int .i64 0, .int .i64 0, .int .i64 0, .slice none 0 0]), 4, 48) := by kernel_rfl
end Go.Proofs.YtfdchdnkblmijaaGreatDoor
end

section
namespace Go.Proofs.YtfdchdnkblmijaaGreatDoor
open Go.RowKit

theorem Row.low {k : IntKind} {w : World} {v : Value} {l : List Int} (h : Row k w v l) : ∀ b o n c, v = .slice (some ⟨b, o, none⟩) n c → 0 < n → b < w.heap.size := fun b o n c e hn => by
  obtain ⟨a, cap, e2, _, _, _, _, hc⟩ := h
  rw [e] at e2
  cases e2
  obtain ⟨b2, o2, e3, hlt, _⟩ := hc (by rintro rfl; simp at hn)
  cases e3
  exact hlt
theorem grown_typed {X Y : World} {base n size k : Nat} {e t : TypeId} {v : Value} {xs : List Value} {cs : Array Value} {f : Nat × Nat} (ho : X.ownsRow base e size v n xs) (hg : X.grownBy Y v.ownBlock) (hk : X.heap[k]? = some (.cells cs t f)) (hne : t ≠ e) : Y.heap[k]? = some (.cells cs t f) := by
  refine (hg.block k (Array.getElem?_eq_some_iff.1 hk).1 ?_).trans hk
  intro ee
  rcases ho.2 with ⟨rfl, _⟩ | ⟨g, cap, cur, rfl, _, hh, _⟩
  · simp [Value.ownBlock] at ee
  · simp [Value.ownBlock] at ee
    subst ee
    rw [hh] at hk
    injection hk with hk
    injection hk with _ h2
    exact hne h2.symm
theorem own_cells {X : World} {base n size g : Nat} {e : TypeId} {v : Value} {xs : List Value} (ho : X.ownsRow base e size v n xs) (hg : v.ownBlock = some g) : base ≤ g ∧ ∃ cs, X.heap[g]? = some (.cells cs e (0, 0)) := by
  rcases ho.2 with ⟨rfl, _⟩ | ⟨g', cap, cur, rfl, hb, hh, _⟩
  · simp [Value.ownBlock] at hg
  · simp [Value.ownBlock] at hg
    subst hg
    exact ⟨hb, _, hh⟩
theorem cells_new4 (w : World) (cs : List Value) (t : TypeId) : ∀ j u, cs[j]? = some u → (w.alloc (.cells cs.toArray t)).cell? ((⟨w.heap.size, 0, none⟩ : Addr).add j) = some u := fun j u h => by
  rw [addr_add, Nat.zero_add, cell_alloc, List.getElem?_toArray, h]

theorem LvK.put {base B : Nat} {xs : List Lvl} {A X : World} {l : Nat} {o : Obj} (o' : Obj) (h : LvK base xs A X) (hB : base ≤ B) (hl : B ≤ l) (ho : X.heap[l]? = some o) (hc : o.isCells = false) : LvK base xs A (X.putObj l o') := by
  refine ⟨h.1, fun x hx => ?_⟩
  obtain ⟨k1, k2⟩ := h.2 x hx
  refine ⟨by simpa [World.putObj] using k1, fun k hk hp => ?_⟩
  have hkl : k ≠ l := by
    rintro rfl
    have e := k2 k hk hp
    rw [ho] at e
    have cells : (∃ cs t f, A.heap[k]? = some (.cells cs t f)) → False := by
      rintro ⟨cs, t, f, h⟩
      rw [h] at e
      cases e
      cases hc
    rcases hp with hp | ⟨_, hp⟩ | ⟨cs, t, f, hp, _⟩
    · omega
    · exact cells hp
    · exact cells ⟨cs, t, f, hp⟩
  rw [World.putObj_heap_other hkl]
  exact k2 k hk hp

/-- The step. -/
theorem mk_step {w W0 W V2 w5 : World} {C E lim base L l : Nat} {day : Int} {pre : List Lvl} {x : Lvl} {v v' : Value} {T : Obj}
    (hd2 : Duo V2 C 24 (.int .i64 day) v) (ho2 : V2.ownsRow lim 41 4 v pre.length (levelCells pre)) (he2 : Boxed V2 E 28 (.int .i64 0)) (h8 : ∀ y ∈ pre, Own8 V2 lim y) (h8x : Own8 V2 lim x) (hb2 : Below w.heap.size w V2)
    (hgrow : (V2.alloc T).grownBy w5 v.ownBlock) (own5 : w5.ownsRow lim 41 4 v' (pre.length + 1) (levelCells pre ++ [.int .i64 x.s.bits, .int .i64 x.s.hashes, .int .i64 x.s.salt, x.vb]))
    (hbase : base = w.heap.size) (hC : base ≤ C) (hCl : C < lim) (hL : lim ≤ L) (hlL : L ≤ l) (hWsz : W.heap.size ≤ V2.heap.size) (hWV : ∀ k, k < W.heap.size → k ≠ l → V2.heap[k]? = W.heap[k]?) (hloop : ∃ r, W.heap[l]? = some (.loop r))
    (hW0 : W0.heap.size ≤ x.G) (hl0 : lim ≤ W0.heap.size) (hlV : lim ≤ V2.heap.size) (hv0 : ∀ g, v.ownBlock = some g → g < W0.heap.size) (h16 : pre.length < 16) :
    KeepsFrom L V2 (w5.setCell ⟨C, 1, none⟩ v') ∧ LvK base (pre ++ [x]) W (w5.setCell ⟨C, 1, none⟩ v') ∧ MkI w C E day lim (pre ++ [x]) (w5.setCell ⟨C, 1, none⟩ v') := by
  have o2a := ho2.alloc T
  have alloc_at : ∀ {k : Nat} {o : Obj}, V2.heap[k]? = some o → (V2.alloc T).heap[k]? = some o := fun h => (Below.heap_alloc V2 T _ (Array.getElem?_eq_some_iff.1 h).1).trans h
  have typed : ∀ {k : Nat} {cs : Array Value} {t : TypeId} {f : Nat × Nat}, V2.heap[k]? = some (.cells cs t f) → t ≠ 41 → w5.heap[k]? = some (.cells cs t f) := fun h hne => grown_typed o2a hgrow (alloc_at h) hne
  have d5 : Duo w5 C 24 (.int .i64 day) v := typed hd2 (by decide)
  have e5 : Boxed w5 E 28 (.int .i64 0) := typed he2 (by decide)
  have hCE : E ≠ C := by
    rintro rfl
    have this := (show V2.heap[E]? = _ from hd2).symm.trans (show V2.heap[E]? = _ from he2)
    injection this with h1
    injection h1 with _ h2
    exact absurd h2 (by decide)
  have hsz5 : V2.heap.size ≤ w5.heap.size := Nat.le_trans (by simp) hgrow.size
  have hss : (w5.setCell ⟨C, 1, none⟩ v').heap.size = w5.heap.size := by simp
  have far : ∀ k, k ≠ C → (w5.setCell ⟨C, 1, none⟩ v').heap[k]? = w5.heap[k]? := fun k hk => Below.heap_setCell w5 ⟨C, 1, none⟩ v' k hk
  have kept : ∀ k, k < V2.heap.size → v.ownBlock ≠ some k → w5.heap[k]? = V2.heap[k]? := fun k hk hne =>
    (hgrow.block k (Nat.lt_of_lt_of_le hk (by simp)) (fun e => hne e.symm)).trans (Below.heap_alloc V2 T k hk)
  have own8 : ∀ {y : Lvl}, Own8 V2 lim y → Own8 (w5.setCell ⟨C, 1, none⟩ v') lim y := fun {y} h => by
    refine ⟨⟨h.1.1, ?_⟩, h.2⟩
    rcases h.1.2 with h1 | ⟨g, cap, cur, hv, hg, hh, r⟩
    · exact .inl h1
    · exact .inr ⟨g, cap, cur, hv, hg, (far g (by omega)).trans (typed hh (by decide)), r⟩
  have hblow : Below w.heap.size w w5 := by
    refine ⟨hgrow.os.trans hb2.os, hgrow.tape.trans hb2.tape, hgrow.output.trans hb2.output, Nat.le_trans hb2.size hsz5, fun k hk => ?_⟩
    refine (kept k (Nat.lt_of_lt_of_le hk hb2.size) (fun e => ?_)).trans (hb2.block k hk)
    have := (own_cells ho2 e).1
    omega
  refine ⟨⟨by rw [hss]; exact hsz5, fun k o hk ho hnc => ?_⟩, ⟨by simp; omega, fun y hy => ?_⟩, ⟨⟨v', d5.set1 v', ?_⟩, boxed_other e5 hCE 1 _, fun y hy => ?_, hblow.setCell (p := ⟨C, 1, none⟩) (show w.heap.size ≤ C by omega) _, by rw [hss]; omega⟩⟩
  · rw [far k (by omega), kept k (Array.getElem?_eq_some_iff.1 ho).1 (fun e => ?_)]
    · exact ho
    · obtain ⟨_, cs, hcs⟩ := own_cells ho2 e
      rw [hcs] at ho
      cases ho
      cases hnc
  · rw [List.getLast?_concat] at hy
    cases hy
    refine ⟨Nat.le_trans hWsz (by rw [hss]; exact hsz5), fun k hk hp => ?_⟩
    have notl : (∃ cs t f, W.heap[k]? = some (.cells cs t f)) → k ≠ l := by
      rintro ⟨cs, t, f, h⟩ rfl
      obtain ⟨r, hr⟩ := hloop
      rw [h] at hr
      cases hr
    rcases hp with hp | ⟨rfl, hcs⟩ | ⟨cs, t, f, hcs, ht⟩
    · have hkl : k ≠ l := by omega
      rw [far k (by omega), kept k (Nat.lt_of_lt_of_le hk hWsz) (fun e => by have := (own_cells ho2 e).1; omega), hWV k hk hkl]
    · rw [far _ (by omega), kept _ (Nat.lt_of_lt_of_le hk hWsz) (fun e => by have := hv0 _ e; omega), hWV _ hk (notl hcs)]
    · have h2 := (hWV k hk (notl ⟨cs, t, f, hcs⟩)).trans hcs
      have hkC : k ≠ C := by
        rintro rfl
        rw [show V2.heap[k]? = _ from hd2] at h2
        injection h2 with h2
        injection h2 with _ h3
        rcases ht with rfl | rfl | rfl <;> exact absurd h3 (by decide)
      rw [far k hkC, typed h2 (by rcases ht with rfl | rfl | rfl <;> decide), hcs]
  · rw [levelCells_snoc, List.length_append]
    refine ownsRow_setCell_other own5 (a := ⟨C, 1, none⟩) (fun e => ?_) _
    obtain ⟨h1, _⟩ := own_cells own5 e
    have : lim ≤ C := h1
    omega
  · rcases List.mem_append.1 hy with h | h
    · exact own8 (h8 y h)
    · rw [List.mem_singleton.1 h]; exact own8 h8x
end Go.Proofs.YtfdchdnkblmijaaGreatDoor
end

section
namespace Go.Proofs.YtfdchdnkblmijaaGreatDoor
open Go.RowKit Go.Shelf
attribute [local go_sem] Oper.semAt_some

/-- What Make hands back. -/
def Maked (day : Int) (o : Option (List Sm.Sv)) (w w' : World) (e : Ending) : Prop :=
  (∃ ls a c, o = some ls ∧ e = .returned (.tuple #[.agg #[.int .i64 day, .slice a ls.length c], .int .i64 0]) ∧ Svs w' (.slice a ls.length c) ls ∧ PastS w.heap.size w' (.slice a ls.length c) ls ∧ Below w.heap.size w w') ∨ (o = none ∧ NoCasc w w' e 2)

set_option maxRecDepth 100000 in
set_option maxHeartbeats 4000000 in
theorem Make_go (vi vo : Value) (ins outs : List Int) (day : Int) (w : World) (hi : Row .i64 w vi ins) (ho : Row .i64 w vo outs) (hil : ins.length ≤ 1000000) (hol : outs.length ≤ 1000000) (h1 : NumOk ins) (h2 : NumOk outs) (h3 : Cm.dated day) (hdj : Cm.disjoint ins outs) :
    Calls Tryz.prog 11 #[vi, vo, .int .i64 day] w fun e w' => Maked day (Cm.build day 16 0 ins outs) w w' e := by
  obtain ⟨ai, ci, rfl⟩ := hi.shape ins.length rfl
  obtain ⟨ao, co, rfl⟩ := ho.shape outs.length rfl
  obtain ⟨C, hC⟩ : ∃ C, w.heap.size = C := ⟨_, rfl⟩
  have q0 := (Duo.new w 24 (.int .i64 0) (.slice none 0 0)).alloc (.cells #[.int .i64 0] 28)
  have e0 := Boxed.new (w.alloc (.cells #[.int .i64 0, .slice none 0 0] 24)) 28 (.int .i64 0)
  have hb0 := ((Below.refl w.heap.size w).alloc (Nat.le_refl _) (.cells #[.int .i64 0, .slice none 0 0] 24)).alloc (by simp) (.cells #[.int .i64 0] 28)
  have ri := (hi.alloc (.cells #[.int .i64 0, .slice none 0 0] 24)).alloc (.cells #[.int .i64 0] 28)
  have ro := (ho.alloc (.cells #[.int .i64 0, .slice none 0 0] 24)).alloc (.cells #[.int .i64 0] 28)
  rw [hC] at q0
  rw [World.size_alloc, hC] at e0
  obtain ⟨W, hW⟩ : ∃ W, (w.alloc (.cells #[.int .i64 0, .slice none 0 0] 24)).alloc (.cells #[.int .i64 0] 28) = W := ⟨_, rfl⟩
  rw [hW] at q0 e0 hb0 ri ro
  have k1 := numbers_any _ ins W ri hil
  have k2 := numbers_any _ outs W ro hol
  have k3 := dated_any day W
  rw [decide_eq_true h1] at k1
  rw [decide_eq_true h2] at k2
  rw [decide_eq_true h3] at k3
  have HW := Lib.hid hW; have HC := Lib.hid hC
  have RI := Lib.hid ri; have RO := Lib.hid ro
  have HI0 := Lib.hid hi; have HO0 := Lib.hid ho
  clear hi ho ri ro hW hC
  have c0 := q0.cell0; have c1 := q0.cell1; have f0 := q0.free 0; have f1 := q0.free 1; have ce := e0.cell; have fe := e0.frozen
  have hdd := h3
  have H1 := Lib.hid h1; have H2 := Lib.hid h2; have HDj := Lib.hid hdj; have HDd := Lib.hid hdd
  clear h1 h2 h3 hdj hdd
  obtain ⟨i0, hinfo, hz0, hz1, hz2⟩ := info_parts info_sieve
  refine (callsIn_wide (n := 6)).1 ?_
  refine callsIn_of_wp_marks Tryz.func11 rfl trivial ?_ rfl
  simp only [Tryz.ntmps11, List.size_toArray, List.length_cons, List.length_nil, Nat.reduceAdd, Nat.reduceSub, Array.replicate_succ, Array.replicate_zero, List.push_toArray, List.append_toArray, List.nil_append, List.cons_append]
  refine wpIn_wide.2 ?_
  go_wp2_with fail
  rw [HW.out]
  (try rw [HC.out])
  refine wp_scope_straight ?_
  go_wp2_with fail
  refine k1.mono ?_; rintro e w1 ⟨rfl, rfl⟩
  go_wp2_with fail
  refine k2.mono ?_; rintro e w1 ⟨rfl, rfl⟩
  go_wp2_with fail
  refine k3.mono ?_; rintro e w1 ⟨rfl, rfl⟩
  clear k1 k2 k3
  go_wp2_with fail
  go_step3
  go_upto_block 0 with fail
  go_cut [] from 8 (fun wx => W = wx)
  case first =>
    go_wp2_with fail
    go_loop [8, 30] (fun o i => ∃ (k : Nat) (r : List Int), i = .int .i64 k ∧ k ≤ ins.length ∧ Row .i64 W o r ∧ r.length ≤ 1000000 ∧ Seek ins outs k r) (fun _ i => ins.length - (intOf i).toNat)
    case atStart => exact ⟨0, outs, rfl, Nat.zero_le _, RO.out, hol, Seek.start _ _⟩
    case round =>
      obtain ⟨k, r, rfl, hk, hr, hrl, hS⟩ := hrel
      have HR := Lib.hid hr; have HS := Lib.hid hS
      have k0 : (0 : Int) ≤ (k : Int) := by omega
      have e1 : IntKind.i64.wrap ((k : Int) + 1) = (k : Int) + 1 := IntWalk.i64_in _ (by omega)
      obtain ⟨ar, cr, rfl⟩ := hr.shape r.length rfl
      clear hr hS
      by_cases hlt : k < ins.length
      · obtain ⟨_, _, e', _, _, _, _, h5⟩ := RI.out
        cases e'
        obtain ⟨b0, o0, rfl, hb00, hc0⟩ := h5 (by rintro rfl; simp at hlt)
        have hck := hc0 k hlt
        obtain ⟨x, hx⟩ : ∃ x, ins[k]?.getD 0 = x := ⟨_, rfl⟩
        rw [hx] at hck
        have HX := Lib.hid hx
        have k1 : (k : Int) < (ins.length : Int) := by omega
        clear hc0 h5 hx
        go_wp2_with fail
        go_loop [8, 37, 44] (fun o _ _ => ∃ r' : List Int, Row .i64 W o r' ∧ r'.length ≤ 1000000 ∧ Seek ins outs k r') (fun o _ _ => lenOf o)
        case atStart => exact ⟨r, HR.out, hrl, HS.out⟩
        case round =>
          obtain ⟨r', hr', hrl', hS'⟩ := hrel
          have HR' := Lib.hid hr'; have HS' := Lib.hid hS'
          obtain ⟨ar', cr', rfl⟩ := hr'.shape r'.length rfl
          clear hr' hS'
          cases r' with
          | nil =>
            go_wp2_with fail
            go_meet
            exact rfl
          | cons y t =>
            obtain ⟨_, _, e', hlc, hcm, _, _, h5⟩ := HR'.out
            cases e'
            obtain ⟨b1, o1, rfl, hb11, hc1⟩ := h5 (by simp)
            have hcy := hc1 0 (by simp)
            simp only [List.getElem?_cons_zero, Option.getD_some, Nat.add_zero] at hcy
            have hlen : (y :: t).length = t.length + 1 := rfl
            have ht1 : (0 : Int) < ((y :: t).length : Int) := by rw [hlen]; omega
            have e2 : (y :: t).length - 1 = t.length := rfl
            clear hc1 h5
            by_cases hxy : y = x
            · exact absurd HDj.out (HS'.out.found hlt (by rw [HX.out, hxy]))
            · by_cases hyx : x < y
              · have HN := Lib.hid (HS'.out.next H2.out.1 hlt (by rw [HX.out]; exact hyx))
                go_wp2_with fail
                go_round
                case rel => exact ⟨k + 1, y :: t, by go_num, by omega, HR'.out, hrl', HN.out⟩
                case measure => simp [intOf]; omega
              · have HN := Lib.hid (HS'.out.skip H1.out.1 hlt (by rw [HX.out]; omega))
                have hyx' : ¬ y = x := hxy
                by_cases hc1 : cr' = 1
                · have HT := Lib.hid (HR'.out.cut_all 1 (by rw [hlen]; omega) (by omega))
                  go_wp2_with fail
                  go_round
                  case rel => exact ⟨t, HT.out, by rw [hlen] at hrl'; omega, HN.out⟩
                  case measure => simp [lenOf]
                · have HT := Lib.hid (HR'.out.cut 1 (by rw [hlen]; omega) (by rw [hlen] at hlc; omega))
                  go_wp2_with fail
                  go_round
                  case rel => exact ⟨t, HT.out, by rw [hlen] at hrl'; omega, HN.out⟩
                  case measure => simp [lenOf]
      · obtain rfl : k = ins.length := by omega
        (go_wp2_with fail; go_meet; exact rfl)
  case rest =>
    obtain rfl := hcut
    have hrow : ∀ {v : Value} {l : List Int}, Row .i64 w v l → Row .i64 (W.setCell ⟨C, 0, none⟩ (.int .i64 day)) v l := fun {v l} h => (h.below ⟨hb0.os, hb0.tape, hb0.output, hb0.size, hb0.block⟩).aside (h.off (g := C) (by rw [HC.out]; exact Nat.le_refl _)) _
    have ri1 := hrow HI0.out; have ro1 := hrow HO0.out
    have q1 := q0.set0 (.int .i64 day)
    have e1 := boxed_other e0 (show C + 1 ≠ C by omega) 0 (.int .i64 day)
    have hb1 := hb0.setCell (p := ⟨C, 0, none⟩) (show w.heap.size ≤ C by rw [HC.out]; exact Nat.le_refl _) (.int .i64 day)
    have hs1 : (W.setCell ⟨C, 0, none⟩ (.int .i64 day)).heap.size = W.heap.size := by simp
    have hlE := e0.lt
    go_wp2_with fail
    refine (levels_any ai ao ins.length outs.length ci co day _).mono ?_
    rintro e w1 ⟨rfl, hw1⟩
    generalize W.setCell ⟨C, 0, none⟩ (.int .i64 day) = V at *
    obtain ⟨P, hP⟩ : ∃ P, V.heap.size = P := ⟨_, rfl⟩
    have p1 := ((Boxed.new V 36 (.slice ai ins.length ci)).alloc (.cells #[.slice ao outs.length co] 36)).alloc (.cells #[.int .i64 day] 3)
    have p2 := (Boxed.new (V.alloc (.cells #[.slice ai ins.length ci] 36)) 36 (.slice ao outs.length co)).alloc (.cells #[.int .i64 day] 3)
    have p3 := Boxed.new ((V.alloc (.cells #[.slice ai ins.length ci] 36)).alloc (.cells #[.slice ao outs.length co] 36)) 3 (.int .i64 day)
    have hVw : Below V.heap.size V w1 := by rw [← hw1]; exact (((Below.refl _ _).alloc (Nat.le_refl _) _).alloc (by simp) _).alloc (by simp; omega) _
    have hsz1 : w1.heap.size = P + 3 := by rw [← hw1]; simp [hP]
    simp only [World.size_alloc, hP] at p1 p2 p3
    rw [hw1] at p1 p2 p3
    rw [hP]
    have q2 := q1.stp hVw; have e2 := cboxed_stp e1 hVw; have hb2 := hb1.trans (hVw.mono hb1.size)
    have ri2 := ri1.below hVw; have ro2 := ro1.below hVw
    have hNi : NumL ins := ⟨H1.out.2, H1.out.1.1⟩
    have hNo : NumL outs := ⟨H2.out.2, H2.out.1.1⟩
    have hCP : C + 1 < P := by omega
    have hIt : LvIt w1 P (P + 2) (P + 1) day w.heap.size (.slice ai ins.length ci) (.slice ao outs.length co) ins outs :=
      ⟨p1, p3, p2, ri2, ro2, fun b o n c e hn => .inl (HI0.out.low b o n c e hn), fun b o n c e hn => .inl (HO0.out.low b o n c e hn)⟩
    have hwC : w.heap.size = C := HC.out
    have hseq : SeqTold Fence.wide 5 Tryz.prog 72 #[.pointer (some ⟨P, 0, none⟩), .pointer (some ⟨P + 2, 0, none⟩), .pointer (some ⟨P + 1, 0, none⟩)] lvEnc (TwoB P (P + 1)) (LvR day ins outs w1.heap.size) (LvK w.heap.size)
        (fun xs => Cm.build day 16 0 ins outs = some (xs.map (·.s))) (fun _ => True) w1 := fun l J Jx X hX hJ hJx hY h0 =>
      levels1_in 5 (by omega) l P (P + 2) (P + 1) w.heap.size w1.heap.size day ins outs HDd.out J Jx hJ hY X _ _ (by omega) (by omega) (by omega) (hIt.stp hX) hNi hNo hX.size h0
    have hTwo : ∀ k, TwoB P (P + 1) k → w.heap.size ≤ k ∧ k < w1.heap.size ∧ k ≠ C ∧ k ≠ C + 1 := by
      intro k hk
      rcases hk with rfl | rfl <;> refine ⟨?_, ?_, ?_, ?_⟩ <;> omega
    have I0 : MkI w C (C + 1) day w1.heap.size [] w1 := ⟨⟨_, q2, World.ownsRow_nil _ _ _ _⟩, e2, by simp, hb2, Nat.le_refl _⟩
    have Hsq := Lib.hid hseq; have HI1 := Lib.hid I0; have HTw := Lib.hid hTwo
    clear hseq I0 hTwo hIt p1 p2 p3 ri1 ro1 ri2 ro2 q0 q1 e0 e1 hb0 hb1 hVw hw1 hrow hs1 c0 c1 f0 f1 ce fe
    go_wp2_with fail
    refine (wpIn_wide (n := 6)).1 ?_
    refine wpIn_told rfl (by omega) (gf := 72) (lb := #[.pointer (some ⟨P, 0, none⟩), .pointer (some ⟨P + 2, 0, none⟩), .pointer (some ⟨P + 1, 0, none⟩)]) rfl trivial (enters_of Tryz.func72 (by kernel_rfl) rfl)
      Hsq.out ?kb (Below.refl _ _) (fun _ => rfl) (MkI w C (C + 1) day w1.heap.size) (fun c _ X => c = .ret ∧ Cm.build day 16 0 ins outs = none ∧ MkX w C (C + 1) X) (fun k hk => (HTw.out k hk).2.1) ?hi ?hix ?hib ?hixb HI1.out ?round ?done ?stop
    case kb => exact fun xs A X l o o' h hl ho hc _ => h.put o' hb2.size hl ho hc
    case hi => exact fun pre A X row h hg hr => h.sts (Sts.of_grown hg hr hb2.size) (fun _ f => f.elim) (fun f => f) (fun f => f)
    case hix => exact fun c pre A X row h hg hr => ⟨h.1, h.2.1, h.2.2.sts (Sts.of_grown hg hr hb2.size) (fun f => f) (fun f => f)⟩
    case hib => exact fun pre A X h ho => h.sts (Sts.of_only ho (fun k hk => (HTw.out k hk).1)) (fun k hk => (HTw.out k hk).2.1) (fun hk => (HTw.out C hk).2.2.1 rfl) (fun hk => (HTw.out (C + 1) hk).2.2.2 rfl)
    case hixb => exact fun c pre A X h ho => ⟨h.1, h.2.1, h.2.2.sts (Sts.of_only ho (fun k hk => (HTw.out k hk).1)) (fun hk => (HTw.out C hk).2.2.1 rfl) (fun hk => (HTw.out (C + 1) hk).2.2.2 rfl)⟩
    case round =>
      rintro l pre ⟨i, s, vb, G⟩ W0 X hl hI hbw ⟨hi, h16, h8x, ⟨hG1, hG2⟩, hnone⟩ ⟨r, hr⟩
      dsimp only at hi hG1 hG2
      subst hi
      obtain ⟨v, hd0, ho0⟩ := hI.lv
      have hv0 : ∀ g, v.ownBlock = some g → g < W0.heap.size := fun g e => by obtain ⟨_, cs, h⟩ := own_cells ho0 e; exact (Array.getElem?_eq_some_iff.1 h).1
      have hl0 := hI.sz
      have hst : Sts w (fun _ => False) W0 X := Sts.of_below hbw
      have hoX := owns_sts ho0 hst (fun _ f => f.elim)
      have hdX : Duo X C 24 (.int .i64 day) v := hst.cells _ _ _ _ hd0 (fun f => f)
      have heX : Boxed X (C + 1) 28 (.int .i64 0) := hst.cells _ _ _ _ hI.e (fun f => f)
      have h8 : ∀ y ∈ pre, Own8 X w1.heap.size y := fun y hy => ⟨owns_sts (hI.own y hy).1 hst (fun _ f => f.elim), (hI.own y hy).2⟩
      have hbX := (hI.sts hst (fun _ f => f.elim) (fun f => f) (fun f => f)).bel
      obtain ⟨av, nv, cv, rfl⟩ := owns_slice ho0
      obtain ⟨ab, nb, cb, rfl⟩ := owns_slice h8x.1
      dsimp only
      have hlX : l < X.heap.size := (Array.getElem?_eq_some_iff.1 hr).1
      obtain ⟨o5, ho5⟩ : ∃ o5 : Obj, .cells #[.int .i64 s.bits, .int .i64 s.hashes, .int .i64 s.salt, .slice ab nb cb, .int .i64 0] 68 (0, 0) = o5 := ⟨_, rfl⟩
      -- the world behind the assignment and the round's beginning
      have step : ∀ r', (∀ k, k < X.heap.size → k ≠ l → ((X.alloc o5).putObj l (.loop r')).heap[k]? = X.heap[k]?) ∧ ((X.alloc o5).putObj l (.loop r')).heap[X.heap.size]? = some o5 ∧ X.heap.size < ((X.alloc o5).putObj l (.loop r')).heap.size ∧ Sts w (fun _ => False) X ((X.alloc o5).putObj l (.loop r')) := by
        intro r'
        have hra : (X.alloc o5).heap[l]? = some (.loop r) := (Below.heap_alloc X o5 l hlX).trans hr
        have hg := Sts.of_grown (w := w) (B := w1.heap.size) (grownBy_putObj' (X.alloc o5) l (.loop r')) (fun q e => by cases e; exact ⟨hl, _, hra, rfl⟩) hb2.size
        have ha : Sts w (fun _ => False) X (X.alloc o5) := Sts.of_below ((Below.refl _ X).alloc (Nat.le_refl _) o5)
        refine ⟨fun k hk hne => (World.putObj_heap_other hne).trans (Below.heap_alloc X o5 k hk), (World.putObj_heap_other (by omega)).trans (World.alloc_heap_new X o5), by simp [World.putObj], ?_⟩
        exact ⟨hg.os.trans ha.os, hg.tape.trans ha.tape, hg.output.trans ha.output, Nat.le_trans ha.size hg.size, fun k hk hk2 => (hg.low k hk (Nat.lt_of_lt_of_le hk2 ha.size)).trans (ha.low k hk hk2), fun k cs t f hc _ => hg.cells k cs t f (ha.cells k cs t f hc (fun f => f)) (fun f => f)⟩
      have Step := Lib.hid step; have HL0 := Lib.hid hl0; have HV0 := Lib.hid hv0; have H8 := Lib.hid h8; have H8x := Lib.hid h8x; have HNone := Lib.hid hnone; have HHr := Lib.hid hr; have HoX := Lib.hid hoX
      have HO5 := Lib.hid ho5; have HdX := Lib.hid hdX; have HeX := Lib.hid heX; have HbX := Lib.hid hbX
      clear step hl0 hv0 h8 h8x hnone hr hoX ho0 hd0 hst hI ho5 hdX heX hbX hbw
      unfold lvEnc
      dsimp only
      gi_wp2
      have ho5 := HO5.out
      subst ho5
      have hdX := HdX.out; have heX := HeX.out; have hbX := HbX.out
      clear HO5
      refine ⟨⟨by simp, fun k o _ hk _ => (Below.heap_alloc X _ k (Array.getElem?_eq_some_iff.1 hk).1).trans hk⟩, fun r' => ?_⟩
      obtain ⟨st1, st2, st3, st4⟩ := Step.out r'
      obtain ⟨B5, hB5⟩ : ∃ B5, X.heap.size = B5 := ⟨_, rfl⟩
      have ho2 := owns_sts HoX.out st4 (fun _ f => f.elim)
      have hd2 : Duo _ C 24 (.int .i64 day) (.slice av nv cv) := st4.cells _ _ _ _ hdX (fun f => f)
      have he2 : Boxed _ (C + 1) 28 (.int .i64 0) := st4.cells _ _ _ _ heX (fun f => f)
      have h82 : ∀ y ∈ pre, Own8 _ w1.heap.size y := fun y hy => ⟨owns_sts (H8.out y hy).1 st4 (fun _ f => f.elim), (H8.out y hy).2⟩
      have h8x2 : Own8 _ w1.heap.size _ := ⟨owns_sts H8x.out.1 st4 (fun _ f => f.elim), H8x.out.2⟩
      have hbV : Below w.heap.size w _ := ⟨st4.os.trans hbX.os, st4.tape.trans hbX.tape, st4.output.trans hbX.output, Nat.le_trans hbX.size st4.size, fun k hk => (st4.low k hk (Nat.lt_of_lt_of_le hk hbX.size)).trans (hbX.block k hk)⟩
      have hXs := st4.size
      generalize (X.alloc (.cells #[.int .i64 s.bits, .int .i64 s.hashes, .int .i64 s.salt, .slice ab nb cb, .int .i64 0] 68 (0, 0))).putObj l (.loop r') = V2 at *
      rw [hB5] at st2 st3 ⊢
      have b0 : V2.cell? ⟨B5, 0, none⟩ = some (.int .i64 s.bits) := by simp [World.cell?, st2]
      have b1 : V2.cell? ⟨B5, 1, none⟩ = some (.int .i64 s.hashes) := by simp [World.cell?, st2]
      have b2 : V2.cell? ⟨B5, 2, none⟩ = some (.int .i64 s.salt) := by simp [World.cell?, st2]
      have b3 : V2.cell? ⟨B5, 3, none⟩ = some (.slice ab nb cb) := by simp [World.cell?, st2]
      have b4 : V2.cell? ⟨B5, 4, none⟩ = some (.int .i64 0) := by simp [World.cell?, st2]
      have g4 : V2.frozen? ⟨B5, 4, none⟩ = false := by simp [World.frozen?, st2]
      have c0 := hd2.cell0; have c1 := hd2.cell1; have f0 := hd2.free 0; have f1 := hd2.free 1; have ce := he2.cell; have fe := he2.frozen
      have hlC := hd2.lt; have hlE := he2.lt
      have St1 := Lib.hid st1; have HO2 := Lib.hid ho2; have H82 := Lib.hid h82; have H8x2 := Lib.hid h8x2
      clear st1 st2 st4 ho2 h82 h8x2
      by_cases h : pre.length = 16
      · have hi16 : (pre.length : Int) = 16 := by omega
        have hnn := HNone.out h
        have hCB : C ≠ B5 := by have := hdX.lt; omega
        have hEB : C + 1 ≠ B5 := by have := heX.lt; omega
        have hbk : Below w.heap.size w (V2.setCell ⟨B5, 4, none⟩ (.int .i64 2)) := hbV.setCell (p := ⟨B5, 4, none⟩) (show w.heap.size ≤ B5 by have := hbX.size; omega) _
        have hkk : KeepsFrom w1.heap.size V2 (V2.setCell ⟨B5, 4, none⟩ (.int .i64 2)) := (KeepsOthers.setCell _ _ _).from _
        have k4 : (V2.setCell ⟨B5, 4, none⟩ (.int .i64 2)).cell? ⟨B5, 4, none⟩ = some (.int .i64 2) := World.cell?_setCell_same _ _ _ b4
        have hd3 := hd2.other (p := ⟨B5, 4, none⟩) (fun e => hCB e.symm) (.int .i64 2)
        have he3 := boxed_other he2 hEB 4 (.int .i64 2)
        have HNN := Lib.hid hnn; have HD3 := Lib.hid hd3; have HE3 := Lib.hid he3; have HBk := Lib.hid hbk; have HKk := Lib.hid hkk; have K4 := Lib.hid k4
        clear hnn hd3 he3 hbk hkk k4
        gi_wp2
        have k4 := K4.out; have hd3 := HD3.out; have he3 := HE3.out; have hbk := HBk.out; have hkk := HKk.out
        clear K4 HD3 HE3 HBk HKk
        generalize V2.setCell ⟨B5, 4, none⟩ (.int .i64 2) = V3 at *
        clear b0 b1 b2 b3 b4 g4 c0 c1 f0 f1 ce fe hd2 he2
        have c0 := hd3.cell0; have c1 := hd3.cell1; have f0 := hd3.free 0; have f1 := hd3.free 1; have ce := he3.cell; have fe := he3.frozen
        have nCB : ¬ C = B5 := hCB
        have nBC : ¬ B5 = C := fun e => hCB e.symm
        have nEB : ¬ C + 1 = B5 := hEB
        have nBE : ¬ B5 = C + 1 := fun e => hEB e.symm
        have qz := ((hd3.set0 (.int .i64 0)).set1 (.slice none 0 0)).other (p := ⟨C + 1, 0, none⟩) (by simp) (.int .i64 2)
        have ez := Boxed.set (.int .i64 2) (show Boxed ((V3.setCell ⟨C, 0, none⟩ (.int .i64 0)).setCell ⟨C, 1, none⟩ (.slice none 0 0)) (C + 1) 28 (.int .i64 0) from boxed_other (boxed_other he3 (by omega) 0 _) (by omega) 1 _)
        have hbz : Below w.heap.size w (((V3.setCell ⟨C, 0, none⟩ (.int .i64 0)).setCell ⟨C, 1, none⟩ (.slice none 0 0)).setCell ⟨C + 1, 0, none⟩ (.int .i64 2)) :=
          ((hbk.setCell (p := ⟨C, 0, none⟩) (show w.heap.size ≤ C by omega) _).setCell (p := ⟨C, 1, none⟩) (show w.heap.size ≤ C by omega) _).setCell (p := ⟨C + 1, 0, none⟩) (show w.heap.size ≤ C + 1 by omega) _
        have hkz : KeepsFrom w1.heap.size V2 (((V3.setCell ⟨C, 0, none⟩ (.int .i64 0)).setCell ⟨C, 1, none⟩ (.slice none 0 0)).setCell ⟨C + 1, 0, none⟩ (.int .i64 2)) :=
          ((hkk.trans ((KeepsOthers.setCell _ _ _).from _)).trans ((KeepsOthers.setCell _ _ _).from _)).trans ((KeepsOthers.setCell _ _ _).from _)
        have QZ := Lib.hid qz; have EZ := Lib.hid ez; have HBZ := Lib.hid hbz; have HKZ := Lib.hid hkz
        clear qz ez hbz hkz hd3 he3 hbk hkk
        gi_region
        all_goals
          gi_wp2
          exact ⟨⟨HKZ.out.size, HKZ.out.same⟩, rfl, HNN.out, ⟨QZ.out, EZ.out, HBZ.out.drew⟩⟩
      · have hi16 : ¬ (pre.length : Int) = 16 := by omega
        have hlt16 : pre.length < 16 := by omega
        gi_wp2_with (first
          | (gi_at_builtin; refine wpListIn_append_own _ rfl (.tmp 76) (.tmp 79) 22 rfl w1.heap.size 41 i0 (.agg #[.int .i64 0, .int .i64 0, .int .i64 0, .slice none 0 0]) 4 48 Tryz.underlying22 hinfo hz0 hz1 hz2 rfl (by decide) (.slice av nv cv) pre.length (levelCells pre) rfl (HO2.out.alloc _) ⟨V2.heap.size, 0, none⟩ 1 1 [.int .i64 s.bits, .int .i64 s.hashes, .int .i64 s.salt, .slice ab nb cb] rfl rfl (cells_new4 V2 _ _) (by intro u hu; simp at hu; rcases hu with rfl | rfl | rfl | rfl <;> rfl) (by unfold maxLen; omega) (by omega) (by simp; omega) ?_
             intro v' w5 own5 hgrow _
             obtain ⟨a5, n5, c5, rfl⟩ := owns_slice own5
             have d5 : Duo w5 C 24 (.int .i64 day) (.slice av nv cv) := grown_typed (HO2.out.alloc _) hgrow ((Below.heap_alloc V2 _ C hlC).trans hd2) (by decide)
             have x1 := d5.cell1; have y1 := d5.free 1)
          | fail)
        exact mk_step hd2 HO2.out he2 H82.out H8x2.out hbV hgrow own5 rfl (by omega) (by omega) (Nat.le_refl _) hl hXs St1.out ⟨_, HHr.out⟩ hG1 HL0.out (by omega) HV0.out hlt16
    case done =>
      rintro D xs X hD hS hI hK
      obtain ⟨v, hd, ho⟩ := hI.lv
      obtain ⟨av, nv, cv, rfl⟩ := owns_slice ho
      have hnv : nv = xs.length := by
        rcases ho.2 with ⟨h1, h2⟩ | ⟨g', cap', cur, h1, _⟩
        · cases h1; omega
        · cases h1; rfl
      subst hnv
      have e0 := hI.e
      have s0 : X.setCell ⟨C, 0, none⟩ (.int .i64 day) = X := setCell_self hd rfl
      have s1 : X.setCell ⟨C, 1, none⟩ (.slice av xs.length cv) = X := setCell_self hd rfl
      have s2 : X.setCell ⟨C + 1, 0, none⟩ (.int .i64 0) = X := setCell_self e0 rfl
      have hfin : ∀ o', MkI w C (C + 1) day w1.heap.size xs (X.putObj D o') := fun o' => hI.sts (Sts.of_grown (B := w1.heap.size) (grownBy_putObj' X D o') (fun q e => by cases e; exact ⟨hD, _, hK, rfl⟩) hb2.size) (fun _ f => f.elim) (fun f => f) (fun f => f)
      have hdf : ∀ o', Duo (X.putObj D o') C 24 (.int .i64 day) (.slice av xs.length cv) := fun o' => (World.putObj_heap_other (by have := hd.lt; omega)).trans hd
      have hof : ∀ o', (X.putObj D o').ownsRow w1.heap.size 41 4 (.slice av xs.length cv) xs.length (levelCells xs) := fun o' => owns_sts ho (Sts.of_grown (w := w) (B := w1.heap.size) (grownBy_putObj' X D o') (fun q e => by cases e; exact ⟨hD, _, hK, rfl⟩) hb2.size) (fun _ f => f.elim)
      have hsz := hb2.size
      have HSz := Lib.hid hsz
      clear hsz
      have HS := Lib.hid hS; have HK := Lib.hid hK; have HFin := Lib.hid hfin; have HDf := Lib.hid hdf; have HOf := Lib.hid hof
      have S0 := Lib.hid s0; have S1 := Lib.hid s1; have S2 := Lib.hid s2
      have c0 := hd.cell0; have c1 := hd.cell1; have f0 := hd.free 0; have f1 := hd.free 1; have ce := e0.cell; have fe := e0.frozen
      clear hI hS ho hK hd e0 hb2 hfin hdf hof s0 s1 s2
      gi_wp2
      go_wp2_with fail
      rw [S0.out, S1.out, S2.out, Exit.noGoto_ret]
      refine ⟨by simp, .inl ⟨_, _, rfl, run_takeDeferred HK.out, ?_⟩⟩
      refine ⟨_, casc_ret rfl rfl rfl (HDf.out _) (HFin.out _).e, .inl ⟨xs.map (·.s), av, cv, HS.out, by rw [List.length_map], ?_, ?_, (HFin.out _).bel⟩⟩
      · rw [List.length_map]
        exact svs_of (HOf.out _) (HFin.out _).own
      · rw [List.length_map]
        exact pasts_of (HOf.out _) (HFin.out _).own HSz.out
    case stop =>
      rintro D c pre X hD - ⟨rfl, hN, hX⟩ hK
      have hfin : ∀ o', MkX w C (C + 1) (X.putObj D o') := fun o' => hX.sts (Sts.of_grown (B := w1.heap.size) (grownBy_putObj' X D o') (fun q e => by cases e; exact ⟨hD, _, hK, rfl⟩) hb2.size) (fun f => f) (fun f => f)
      have HFin := Lib.hid hfin; have HK := Lib.hid hK; have HN := Lib.hid hN
      clear hfin hK hN hX
      gi_wp2
      rw [Exit.noGoto_ret]
      refine ⟨by simp, .inl ⟨_, _, rfl, run_takeDeferred HK.out, ?_⟩⟩
      exact ⟨_, casc_ret rfl rfl rfl (HFin.out _).c (HFin.out _).e, .inr ⟨HN.out, rfl, (HFin.out _).bel⟩⟩
end Go.Proofs.YtfdchdnkblmijaaGreatDoor
end

section
namespace Go.Proofs.YtfdchdnkblmijaaGreatDoor
open Go.RowKit

/-- What is handed back: a cascade, or why there is none. -/
def CascR (w' : World) (e : Ending) : Except Int (Int × List Sm.Sv) → Prop
  | .error c => e = .returned (.tuple #[.agg #[.int .i64 0, .slice none 0 0], .int .i64 c])
  | .ok (day, ls) => ∃ a c, e = .returned (.tuple #[.agg #[.int .i64 day, .slice a ls.length c], .int .i64 0]) ∧ Svs w' (.slice a ls.length c) ls
/-- The cascade of numbers and of a day, or why there is none. -/
def Cm.mk (ins outs : List Int) (day : Int) : Except Int (Int × List Sm.Sv) :=
  if NumOk ins ∧ NumOk outs ∧ Cm.dated day then
    (if Cm.disjoint ins outs then (match Cm.build day 16 0 ins outs with | none => .error 2 | some ls => .ok (day, ls)) else .error 100)
  else .error 1
theorem Cm.mk_ok {ins outs : List Int} {day : Int} {p : Int × List Sm.Sv} (h : Cm.mk ins outs day = .ok p) : NumOk ins ∧ NumOk outs ∧ Cm.dated day ∧ Cm.disjoint ins outs ∧ p.1 = day ∧ Cm.build day 16 0 ins outs = some p.2 := by
  unfold Cm.mk at h
  split at h
  · next h1 =>
    split at h
    · next h2 =>
      split at h
      · cases h
      · next ls hb =>
        cases h
        exact ⟨h1.1, h1.2.1, h1.2.2, h2, rfl, hb⟩
    · cases h
  · cases h
theorem Make_any (vi vo : Value) (ins outs : List Int) (day : Int) (w : World) (hi : Row .i64 w vi ins) (ho : Row .i64 w vo outs) (hil : ins.length ≤ 1000000) (hol : outs.length ≤ 1000000) :
    Calls Tryz.prog 11 #[vi, vo, .int .i64 day] w fun e w' => CascR w' e (Cm.mk ins outs day) ∧ Below w.heap.size w w' := by
  unfold Cm.mk
  by_cases h1 : NumOk ins ∧ NumOk outs ∧ Cm.dated day
  · rw [if_pos h1]
    by_cases h2 : Cm.disjoint ins outs
    · rw [if_pos h2]
      refine (Make_go vi vo ins outs day w hi ho hil hol h1.1 h1.2.1 h1.2.2 h2).mono ?_
      rintro e w' (⟨ls, a, c, hl, he, hs, -, hb⟩ | ⟨hn, he, hb⟩)
      · rw [hl]; exact ⟨⟨a, c, he, hs⟩, hb⟩
      · rw [hn]; exact ⟨he, hb⟩
    · rw [if_neg h2]
      exact (Make_many vi vo ins outs day w hi ho hil hol h1.1 h1.2.1 h1.2.2 h2).mono fun e w' h => h
  · rw [if_neg h1]
    exact (Make_arg vi vo ins outs day w hi ho hil hol h1).mono fun e w' h => h
end Go.Proofs.YtfdchdnkblmijaaGreatDoor
end
