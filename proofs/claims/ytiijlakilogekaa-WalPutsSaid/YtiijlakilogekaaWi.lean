/-
  The iterator wal.frames: its contract.
-/
import Derived.Test.YtiijlakilogekaaWf
import Derived.Test.YtiijlakilogekaaWp
import Derived.Test.YtiijlakilogekaaBe
import Derived.Test.YtiijlakilogekaaKb
import Derived.Stop.RegionWithIn
import Derived.WalkMore
import Derived.Sort.QuietTacIn
import Derived.Sort.BigQuietIn
namespace Go.Proofs.Ytiijlakilogekaa
open Go.RowKit Go.Shelf
attribute [local go_sem] Oper.semAt_some

/-- A frame of bytes, by its place. -/
abbrev Fr (l : List Int) := { j : Nat // j < (Wm.read l).length }

theorem below_of_drew {n : Nat} {w w' : World} (h : Below n w.drew w') : Below n w w' := ⟨h.os, h.tape, h.output, h.size, h.block⟩
theorem Below.grows {w w' : World} (h : Below w.heap.size w w') : w.grownBy w' none := ⟨h.os, h.tape, h.output, h.size, fun k hk _ => h.block k hk⟩

/-- What a round keeps: two blocks. -/
def KeepsBs (B D : Nat) (W W' : World) : Prop := W.heap.size ≤ W'.heap.size ∧ W'.heap[B]? = W.heap[B]? ∧ W'.heap[D]? = W.heap[D]?
theorem KeepsBs.trans {B D : Nat} {a b c : World} (h : KeepsBs B D a b) (k : KeepsBs B D b c) : KeepsBs B D a c := ⟨Nat.le_trans h.1 k.1, k.2.1.trans h.2.1, k.2.2.trans h.2.2⟩
theorem KeepsBs.refl (B D : Nat) (w : World) : KeepsBs B D w w := ⟨Nat.le_refl _, rfl, rfl⟩
theorem KeepsBs.b {B D : Nat} {w : World} (hB : B < w.heap.size) (hD : D < w.heap.size) (W : World) (l : Nat) (o o' : Obj) (hl : w.heap.size ≤ l) (_h : W.heap[l]? = some o) (_h1 : o.isCells = false) (_h2 : o.isWalk = false) : KeepsBs B D W (W.putObj l o') :=
  ⟨by simp [World.putObj], World.putObj_heap_other (by omega), World.putObj_heap_other (by omega)⟩
theorem KeepsBs.row {B D : Nat} {W W' : World} (h : KeepsBs B D W W') {k : IntKind} {off n c : Nat} {l : List Int} (hr : Row k W (.slice (some ⟨D, off, none⟩) n c) l) : Row k W' (.slice (some ⟨D, off, none⟩) n c) l := by
  obtain ⟨a, cap, h1, h2, h3, h0, h4, h5⟩ := hr
  refine ⟨a, cap, h1, h2, h3, h0, h4, fun hne => ?_⟩
  obtain ⟨b, o, e, hlt, hc⟩ := h5 hne
  subst e
  cases h1
  exact ⟨D, off, rfl, Nat.lt_of_lt_of_le hlt h.1, fun i hi => (World.cell?_of_block h.2.2).trans (hc i hi)⟩

/-- How a call of yield ends: it goes on, or says no more. -/
def Goes {α : Type} (B D : Nat) (J Jx : List α → World → Prop) (xs : List α) (W : World) (e : Ending) (W' : World) : Prop :=
  ∃ c : Bool, e = .returned (.bool c) ∧ ((c = true ∧ J xs W' ∧ KeepsBs B D W W') ∨ (c = false ∧ Jx xs W'))

set_option maxRecDepth 100000 in
set_option maxHeartbeats 2000000 in
theorem frames1_in (n : Nat) (hn : 1 ≤ n) (L Bb Bd off cap : Nat) (l : List Int) (J Jx : List (Fr l) → World → Prop) (hlen : l.length ≤ 100000)
    (hJ : ∀ pre W W', J pre W → Below W.heap.size W W' → J pre W')
    (hY : ∀ pre (x : Fr l) W, J pre W → pre.length < (Wm.read l).length → YieldAt Fence.wide (n - 1) Try.prog L #[.slice (some ⟨Bd, off + Wm.pos l x.1 + 4, none⟩) (Wm.long (l.drop (Wm.pos l x.1))) (cap - (Wm.pos l x.1 + 4)), .int .i64 (Wm.pos l (x.1 + 1) : Nat)] W fun e W' =>
      (e = .returned (.bool true) ∧ J (pre ++ [x]) W' ∧ KeepsBs Bb Bd W W') ∨ (e = .returned (.bool false) ∧ Jx (pre ++ [x]) W'))
    (W : World) (hBb : Boxed W Bb 22 (.slice (some ⟨Bd, off, none⟩) l.length cap)) (hrow : Row .u8 W (.slice (some ⟨Bd, off, none⟩) l.length cap) l) (h0 : J [] W) :
    CallsIn Fence.wide n Try.prog 30 #[.func (.yield L) #[] #[], .pointer (some ⟨Bb, 0, none⟩)] W fun e W' => (∃ v, e = .returned v) ∧
      ((∃ ys : List (Fr l), ys.map (·.1) = List.range (Wm.read l).length ∧ J ys W') ∨ (∃ pre, True ∧ Jx pre W')) := by
  have hby := hrow.all_byte
  have HBy := Lib.hid hby
  obtain ⟨hcl, hcm⟩ : l.length ≤ cap ∧ cap ≤ 9223372036854775807 := by
    obtain ⟨_, _, e, h1, h2, _⟩ := hrow
    cases e; unfold maxLen at h2; exact ⟨h1, by omega⟩
  clear hby
  refine callsIn_of_wp Try.func30 rfl trivial ?_ rfl
  simp only [Try.ntmps30, List.size_toArray, List.length_cons, List.length_nil, Nat.reduceAdd, Nat.reduceSub, Array.replicate_succ, Array.replicate_zero, List.push_toArray, List.append_toArray, List.nil_append, List.cons_append]
  refine wpIn_wide.2 (wp_scope_straight ((wpIn_wide (n := n)).1 ?_))
  gi_wp2
  refine wpIn_label ?_
  gi_wp2
  gi_loopw [3] (fun at' wr => ∃ (j : Nat) (pre : List (Fr l)), j ≤ (Wm.read l).length ∧ at' = .int .i64 (Wm.pos l j : Nat) ∧ pre.length = j ∧ pre.map (·.1) = List.range j ∧ J pre wr ∧ Boxed wr Bb 22 (.slice (some ⟨Bd, off, none⟩) l.length cap) ∧ Row .u8 wr (.slice (some ⟨Bd, off, none⟩) l.length cap) l) (fun at' _ => l.length - (intOf at').toNat)
  case atStart => exact ⟨0, [], Nat.zero_le _, rfl, rfl, rfl, h0, hBb, hrow⟩
  case round =>
    obtain ⟨j, pre, hj, rfl, hpl, hpm, hJs, hbx, hrw⟩ := hrel
    obtain ⟨p, hp⟩ : ∃ p, Wm.pos l j = p := ⟨_, rfl⟩
    have HP := Lib.hid hp
    have hcell := hbx.cell
    rw [hp]
    have hpl' : p ≤ l.length := by
      rw [← hp]
      have := (Wm.pos_read l j hj).2
      have := Wm.good_le l
      omega
    have HEnd := Lib.hid (show ¬ Wm.whole (l.drop p) → j = (Wm.read l).length from fun hn => by
      apply Classical.byContradiction; intro hne
      exact hn (hp ▸ (Wm.pos_at l j (by omega)).1))
    clear hp
    by_cases h20 : p + 20 ≤ l.length
    · have hlx : ∃ x : Nat, l.length = p + 20 + x := ⟨l.length - (p + 20), by omega⟩
      gi_wp2_with fail
      obtain ⟨wo, rfl⟩ : ∃ wo : World, wo = wr := ⟨_, rfl⟩
      gi_loopw [4, 20] (fun nv i wr' => ∃ (k m : Nat), k ≤ 4 ∧ i = .int .i64 k ∧ nv = .int .i64 m ∧ Hid (Wm.num ((l.drop p).take k) = m) ∧ m ≤ 4096 ∧ wr' = wo) (fun _ i _ => (4 - intOf i).toNat)
      case atStart => exact ⟨0, 0, by omega, rfl, rfl, Lib.hid (by simp [Wm.num]), by omega, rfl⟩
      case round =>
        obtain ⟨k, m, hk, rfl, rfl, HM, hm, rfl⟩ := hrel
        by_cases hlt : k < 4
        · obtain ⟨b', o', e', hb', hc'⟩ := (by obtain ⟨_, _, e, _, _, _, _, hr⟩ := hrw; cases e; exact hr (by rintro rfl; simp at h20) : ∃ b o, (some ⟨Bd, off, none⟩ : Option Addr) = some ⟨b, o, none⟩ ∧ b < wr.heap.size ∧ ∀ i, i < l.length → wr.cell? ⟨b, o + i, none⟩ = some (.int .u8 (l[i]?.getD 0)))
          cases e'
          have g := hc' (p + k) (by omega)
          rw [← Nat.add_assoc] at g
          have hby := getD_byte l HBy.out (p + k)
          obtain ⟨c, ec⟩ : ∃ c : Nat, l[p + k]?.getD 0 = c := ⟨(l[p + k]?.getD 0).toNat, by unfold byte at hby; omega⟩
          have hs : Wm.num ((l.drop p).take (k + 1)) = ((m * 256 + c : Nat) : Int) := by
            have hd : k < (l.drop p).length := by simp; omega
            rw [List.take_succ_eq_append_getElem hd, Wm.num_snoc, HM.out]
            have : (l.drop p)[k] = l[p + k]?.getD 0 := by rw [List.getElem_drop, List.getElem?_eq_getElem (by omega)]; rfl
            rw [this, ec]; simp
          rw [ec] at g hby
          have hc255 : c ≤ 255 := by unfold byte at hby; omega
          have HS := Lib.hid hs
          clear hc' hby ec hs
          by_cases h4 : m * 256 + c ≤ 4096
          · gi_wp2_with fail
            exact ⟨⟨k + 1, m * 256 + c, by omega, by go_num, by go_num, HS, by omega, trivial⟩, by simp [intOf]; omega⟩
          · gi_wp2_with fail
            rw [Exit.noGoto_normal]
            go_end0
            refine ⟨⟨_, rfl⟩, .inl ⟨pre, ?_, hJs⟩⟩
            rw [hpm, HEnd.out]
            intro hw
            have h1 := hw.2.1
            unfold Wm.told at h1
            have h2 := Wm.num_mono ((l.drop p).take (k + 1)) (((l.drop p).take 4).drop (k + 1)) (by rw [HS.out]; omega) (fun x hx => HBy.out x (List.mem_of_mem_drop (List.mem_of_mem_take (List.mem_of_mem_drop hx))))
            rw [show (l.drop p).take (k + 1) = ((l.drop p).take 4).take (k + 1) by rw [List.take_take, Nat.min_eq_left (by omega)], List.take_append_drop, ← show (l.drop p).take (k + 1) = ((l.drop p).take 4).take (k + 1) by rw [List.take_take, Nat.min_eq_left (by omega)], HS.out] at h2
            omega
        · obtain rfl : k = 4 := by omega
          have htold : Wm.told (l.drop p) = m := HM.out
          have hlong : Wm.long (l.drop p) = m := by unfold Wm.long; rw [htold]; rfl
          have HT := Lib.hid htold
          have HLo := Lib.hid hlong
          clear htold hlong
          by_cases hE : p + 4 + m + 16 ≤ l.length
          · by_cases heq : Hm.bytes ((l.drop (p + 4)).take m) = (l.drop (p + 4 + m)).take 16
            · have hw : Wm.whole (l.drop p) := ⟨by simp; omega, by rw [HT.out]; omega, by rw [HLo.out]; simp; omega, by rw [HLo.out, List.drop_drop, List.drop_drop, heq]; congr 2; omega⟩
              have hjl : j < (Wm.read l).length := by
                apply Classical.byContradiction; intro hn'
                have e : j = (Wm.read l).length := by omega
                have := (Wm.pos_end l).2
                rw [← e, HP.out] at this
                exact this hw
              have hlt := hbx.lt
              have hx : Row .u8 wr (.slice (some ⟨Bd, off + (p + 4), none⟩) m (cap - (p + 4))) ((l.drop (p + 4)).take m) := (hrw.drop (p + 4) (by omega)).take m (by simp; omega)
              have hs : Row .u8 wr (.slice (some ⟨Bd, off + (p + 4 + m), none⟩) 16 (cap - (p + 4 + m))) ((l.drop (p + 4 + m)).take 16) := (hrw.drop (p + 4 + m) (by omega)).take 16 (by simp; omega)
              have hyl : ∀ W2, Below wr.heap.size wr W2 → YieldAt Fence.wide (n - 1) Try.prog L #[.slice (some ⟨Bd, off + (p + 4), none⟩) m (cap - (p + 4)), .int .i64 ((p : Int) + 4 + m + 16)] W2 (Goes Bb Bd J Jx (pre ++ [⟨j, hjl⟩]) W2) := by
                intro W2 hb
                obtain ⟨fn, tmps, assign, body, hy, hR⟩ := hY pre ⟨j, hjl⟩ W2 (hJ _ _ _ hJs hb) (by omega)
                rw [show off + Wm.pos l j + 4 = off + (p + 4) by rw [HP.out]; omega, show Wm.long (l.drop (Wm.pos l j)) = m by rw [HP.out, HLo.out], show cap - (Wm.pos l j + 4) = cap - (p + 4) by rw [HP.out], show ((Wm.pos l (j + 1) : Nat) : Int) = (p : Int) + 4 + m + 16 by rw [(Wm.pos_at l j hjl).2.2.1, HP.out, HLo.out]; omega] at hy
                refine ⟨fn, tmps, assign, body, hy, hR.mono ?_⟩
                rintro e W' (⟨rfl, h1, h2⟩ | ⟨rfl, h1⟩)
                · exact ⟨true, rfl, .inl ⟨rfl, h1, h2⟩⟩
                · exact ⟨false, rfl, .inr ⟨rfl, h1⟩⟩
              have HX := Lib.hid hx; have HSl := Lib.hid hs; have HYl := Lib.hid hyl; have HEq := Lib.hid heq
              have HW := Lib.hid hw
              clear hx hs hyl heq hw hY
              gi_wp2_with fail
              have e1 : IntKind.i64.wrap ((p : Int) + 4 + m) = (p : Int) + 4 + m := IntWalk.i64_in _ (by omega)
              have f1 : ((p : Int) + 4 + m).toNat = p + 4 + m := by omega
              have f2 : ((p : Int) + 4 + m + 16).toNat = p + 4 + m + 16 := by omega
              have f3 : ¬ cap = p + 4 + m := by omega
              have f4 : (p : Int) + 4 + m + 16 ≤ cap := by omega
              have f5 : (0 : Int) ≤ (p : Int) + 4 + m := by omega
              have f6 : (p : Int) + 4 + m ≤ (p : Int) + 4 + m + 16 := by omega
              have f7 : (0 : Int) ≤ (p : Int) + 4 + m + 16 := by omega
              have f8 : p + 4 + m + 16 - (p + 4 + m) = 16 := by omega
              gi_region_with (first
                | (refine ⟨trivial, ?_⟩; gi_at_call 27; refine (callsIn_wide.2 (Sum_any _ _ _ (by exact HX.out) (by simp; omega))).mono ?_; rintro e w2 ⟨rfl, hb2⟩; have cb2 := (hb2.cell (p := ⟨Bb, 0, none⟩) hlt).trans hcell)
                | (refine ⟨trivial, ?_⟩; gi_at_call 26; refine (callsIn_wide.2 (Bytes_any _ _ _)).mono ?_; rintro e w3 ⟨v3, rfl, hown3, hb3⟩; have cb3 := (hb3.cell (p := ⟨Bb, 0, none⟩) (Nat.lt_of_lt_of_le hlt hb2.size)).trans cb2)
                | (refine ⟨trivial, ?_⟩; gi_at_call 31; refine (callsIn_wide.2 (BEqual_yes _ _ _ _ _ (Row.of_bytes hown3 (fun x hx => by rcases List.mem_append.1 hx with h | h <;> exact Hm.be_byte _ _ x h)) ((HSl.out.below (below_of_drew hb2)).below hb3) HEq.out)).mono ?_; rintro e w4 ⟨rfl, rfl⟩; obtain ⟨fn, tmps, assign, body, hy, hR⟩ := HYl.out w3 ((below_of_drew hb2).trans (hb3.mono hb2.size)))
                | (refine hR.mono ?_; rintro e W5 ⟨c, rfl, hc⟩))
              all_goals
                have hbW := (below_of_drew hb2).trans (hb3.mono hb2.size)
                have hbx3 : Boxed w3 Bb 22 (.slice (some ⟨Bd, off, none⟩) l.length cap) := (hbW.block Bb hlt).trans hbx
                have hrw3 := hrw.below hbW
                rcases hc with ⟨rfl, hJ5, hk5⟩ | ⟨rfl, hJx5⟩
                · have hbx5 : Boxed W5 Bb 22 (.slice (some ⟨Bd, off, none⟩) l.length cap) := hk5.2.1.trans hbx3
                  have hrw5 := hk5.row hrw3
                  clear hbx3 hrw3 hbW hy hR cb2 cb3 hown3 hb2 hb3 hk5
                  gi_wp2_with fail
                  go_roundw
                  case rel => exact ⟨j + 1, pre ++ [⟨j, hjl⟩], by omega, by rw [(Wm.pos_at l j hjl).2.2.1, HP.out, HLo.out]; go_num, by simp [hpl], by rw [List.map_append, hpm, List.range_succ]; rfl, hJ5, hbx5, hrw5⟩
                  case measure => simp [intOf]; omega
                · clear hbx3 hrw3 hbW hy hR cb2 cb3 hown3 hb2 hb3
                  gi_wp2_with fail
                  rw [Exit.noGoto_normal]
                  go_end0
                  exact ⟨⟨_, rfl⟩, .inr ⟨_, trivial, hJx5⟩⟩
            · have hlt := hbx.lt
              have hx : Row .u8 wr (.slice (some ⟨Bd, off + (p + 4), none⟩) m (cap - (p + 4))) ((l.drop (p + 4)).take m) := (hrw.drop (p + 4) (by omega)).take m (by simp; omega)
              have hs : Row .u8 wr (.slice (some ⟨Bd, off + (p + 4 + m), none⟩) 16 (cap - (p + 4 + m))) ((l.drop (p + 4 + m)).take 16) := (hrw.drop (p + 4 + m) (by omega)).take 16 (by simp; omega)
              have hw : ¬ Wm.whole (l.drop p) := by
                rintro ⟨_, _, _, h4⟩
                rw [HLo.out, List.drop_drop, List.drop_drop] at h4
                exact heq (by rw [h4]; congr 2; omega)
              have HX := Lib.hid hx; have HSl := Lib.hid hs; have HEq := Lib.hid heq
              have HW := Lib.hid hw
              clear hx hs heq hw hY
              gi_wp2_with fail
              have e1 : IntKind.i64.wrap ((p : Int) + 4 + m) = (p : Int) + 4 + m := IntWalk.i64_in _ (by omega)
              have f1 : ((p : Int) + 4 + m).toNat = p + 4 + m := by omega
              have f2 : ((p : Int) + 4 + m + 16).toNat = p + 4 + m + 16 := by omega
              have f3 : ¬ cap = p + 4 + m := by omega
              have f4 : (p : Int) + 4 + m + 16 ≤ cap := by omega
              have f5 : (0 : Int) ≤ (p : Int) + 4 + m := by omega
              have f6 : (p : Int) + 4 + m ≤ (p : Int) + 4 + m + 16 := by omega
              have f7 : (0 : Int) ≤ (p : Int) + 4 + m + 16 := by omega
              have f8 : p + 4 + m + 16 - (p + 4 + m) = 16 := by omega
              first | (gi_region_with (first
                | (refine ⟨trivial, ?_⟩; gi_at_call 27; refine (callsIn_wide.2 (Sum_any _ _ _ (by exact HX.out) (by simp; omega))).mono ?_; rintro e w2 ⟨rfl, hb2⟩; have cb2 := (hb2.cell (p := ⟨Bb, 0, none⟩) hlt).trans hcell)
                | (refine ⟨trivial, ?_⟩; gi_at_call 26; refine (callsIn_wide.2 (Bytes_any _ _ _)).mono ?_; rintro e w3 ⟨v3, rfl, hown3, hb3⟩; have cb3 := (hb3.cell (p := ⟨Bb, 0, none⟩) (Nat.lt_of_lt_of_le hlt hb2.size)).trans cb2)
                | (refine ⟨trivial, ?_⟩; gi_at_call 31; refine (callsIn_wide.2 (BEqual_no _ _ _ _ _ (Row.of_bytes hown3 (fun x hx => by rcases List.mem_append.1 hx with h | h <;> exact Hm.be_byte _ _ x h)) ((HSl.out.below (below_of_drew hb2)).below hb3) HEq.out)).mono ?_; rintro e w4 ⟨rfl, rfl⟩)
                | (refine ⟨fun _ h => (by cases h), ?_⟩))) | fail
              all_goals
                have hbW := (below_of_drew hb2).trans (hb3.mono hb2.size)
                gi_wp2_with fail
                rw [Exit.noGoto_normal]
                go_end0
                exact ⟨⟨_, rfl⟩, .inl ⟨pre, by rw [hpm, HEnd.out HW.out], hJ _ _ _ hJs hbW⟩⟩
          · gi_wp2_with fail
            rw [Exit.noGoto_normal]
            go_end0
            refine ⟨⟨_, rfl⟩, .inl ⟨pre, ?_, hJs⟩⟩
            rw [hpm, HEnd.out]
            intro hw
            have h1 := hw.2.2.1
            rw [HLo.out] at h1
            simp at h1
            omega
    · gi_wp2_with fail
      rw [Exit.noGoto_normal]
      go_end0
      refine ⟨⟨_, rfl⟩, .inl ⟨pre, ?_, hJs⟩⟩
      rw [hpm, HEnd.out]
      intro hw
      have h1 := hw.1
      simp at h1
      omega
end Go.Proofs.Ytiijlakilogekaa
