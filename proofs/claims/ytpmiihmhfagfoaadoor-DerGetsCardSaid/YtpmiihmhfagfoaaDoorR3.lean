/-
  Walks over the document's answer (greatsealref07): length, bytes, Put.
-/
import Derived.Test.YtpmiihmhfagfoaaDoorR2
import Derived.Test.YtpmiihmhfagfoaaDoorEb
namespace Go.Proofs.YtpmiihmhfagfoaaDoor
open Go.RowKit

set_option maxHeartbeats 1000000 in
theorem rLength_any (n : Nat) (w : World) (hn : n < 65536) :
    Calls Tryd.prog 70 #[.int .i64 n] w fun e w' => (∃ v, e = .returned v ∧ OwnB w' w.heap.size v (Dm.lenB n)) ∧ Below w.heap.size w w' := by
  have own : ∀ l : List Int, OwnB (w.alloc (.cells (l.map (Value.int .u8)).toArray 5)) w.heap.size (.slice (some ⟨w.heap.size, 0, none⟩) l.length l.length) l ∨ maxLen < l.length := fun l => by
    by_cases h : l.length ≤ maxLen
    · have := World.ownsRow_lit (base := w.heap.size) (e := 5) (size := 1) w (l.map (Value.int .u8)).toArray l.length (Nat.le_refl _) h (by simp)
      exact .inl (by simpa [OwnB] using this)
    · exact .inr (by omega)
  have bel : ∀ o, Below w.heap.size w (w.alloc o) := fun o => (Below.refl _ w).alloc (Nat.le_refl _) o
  have HO := Lib.hid own; have HB := Lib.hid bel
  clear own bel
  by_cases h1 : n < 128
  · have h1' : (n : Int) < 128 := by omega
    have e1 : IntKind.u8.wrap (n : Int) = (n : Int) := by rw [IntKind.wrap_u8]; omega
    go_enter Tryd.func70, Tryd.ntmps70
    go_wp2_with fail
    go_ret
    refine ⟨⟨_, rfl, ?_⟩, HB.out _⟩
    rcases HO.out [(n : Int)] with h | h
    · rw [Dm.lenB, if_pos h1]; exact h
    · simp [maxLen] at h
  have h1' : ¬ (n : Int) < 128 := by omega
  by_cases h2 : n < 256
  · have h2' : (n : Int) < 256 := by omega
    have e1 : IntKind.u8.wrap (n : Int) = (n : Int) := by rw [IntKind.wrap_u8]; omega
    go_enter Tryd.func70, Tryd.ntmps70
    go_wp2_with fail
    go_ret
    refine ⟨⟨_, rfl, ?_⟩, HB.out _⟩
    rcases HO.out [129, (n : Int)] with h | h
    · rw [Dm.lenB, if_neg h1, if_pos h2]; exact h
    · simp [maxLen] at h
  have h2' : ¬ (n : Int) < 256 := by omega
  have e0 : Int.tdiv (n : Int) 256 = ((n / 256 : Nat) : Int) := by rw [Int.tdiv_eq_ediv_of_nonneg (by omega)]; rfl
  have e1 : IntKind.u8.wrap ((n / 256 : Nat) : Int) = ((n / 256 % 256 : Nat) : Int) := by rw [IntKind.wrap_u8]; omega
  have e2 : IntKind.u8.wrap (n : Int) = ((n % 256 : Nat) : Int) := by rw [IntKind.wrap_u8]; omega
  have e3 : IntKind.i64.wrap ((n / 256 : Nat) : Int) = ((n / 256 : Nat) : Int) := IntWalk.i64_in _ (by omega)
  go_enter Tryd.func70, Tryd.ntmps70
  go_wp2_with fail
  go_ret
  refine ⟨⟨_, rfl, ?_⟩, HB.out _⟩
  have hl : Dm.lenB n = [130, (n : Int) / 256, (n : Int) % 256] := by
    rw [Dm.lenB, if_neg h1, if_neg h2, show ((n / 256 % 256 : Nat) : Int) = (n : Int) / 256 by omega, show ((n % 256 : Nat) : Int) = (n : Int) % 256 by omega]
  rw [hl]
  rcases HO.out [130, (n : Int) / 256, (n : Int) % 256] with h | h
  · exact h
  · simp [maxLen] at h

/-- Bytes that are appended to, all else as it was in W0. -/
structure AccR (W0 w : World) (v : Value) (ms : List Int) : Prop where
  own : OwnB w W0.heap.size v ms
  bel : Below W0.heap.size W0 w
theorem AccR.app {W0 w w' : World} {v v' : Value} {ms l : List Int} (h : AccR W0 w v ms) (a : Appd w w' W0.heap.size v v' l) : AccR W0 w' v' l :=
  ⟨a.own, h.bel.trans (a.below h.own h.bel.size)⟩
theorem AccR.row {W0 w : World} {v u : Value} {ms l : List Int} (h : AccR W0 w v ms) (r : Row .u8 W0 u l) : Row .u8 w u l := r.below h.bel
theorem AccR.stp {W0 w w' : World} {v : Value} {ms : List Int} (h : AccR W0 w v ms) (hb : Below w.heap.size w w') : AccR W0 w' v ms :=
  ⟨owns_below h.own hb, h.bel.trans (hb.mono h.bel.size)⟩
theorem AccR.empty (W0 : World) : AccR W0 (W0.alloc (.cells #[] 5)) (.slice (some ⟨W0.heap.size, 0, none⟩) 0 0) [] :=
  ⟨owns_empty W0 W0.heap.size 5 (Nat.le_refl _), (Below.refl _ W0).alloc (Nat.le_refl _) _⟩
theorem AccR.one (W0 : World) (t : Int) : AccR W0 (W0.alloc (.cells #[.int .u8 t] 5)) (.slice (some ⟨W0.heap.size, 0, none⟩) 1 1) [t] :=
  ⟨World.ownsRow_lit (base := W0.heap.size) (e := 5) (size := 1) W0 #[.int .u8 t] 1 (Nat.le_refl _) (by unfold maxLen; omega) rfl, (Below.refl _ W0).alloc (Nat.le_refl _) _⟩

/-- What is asked of a call of bytes. -/
def BytesOn (x : Dm.It) : Prop := ∀ (w : World) (vb vl : Value), ItP w vb vl x → (∀ z ∈ Dm.bytes x, byte z) → Dm.len x ≤ 60000 →
  Calls Tryd.prog 46 #[.agg #[.int .i64 x.tag, vb, vl]] w fun e w' => (∃ v, e = .returned v ∧ OwnB w' w.heap.size v (Dm.bytes x)) ∧ Below w.heap.size w w'

set_option maxRecDepth 100000 in
set_option maxHeartbeats 4000000 in
theorem bytes_of (x : Dm.It) (hP : ∀ y ∈ x.l, BytesOn y) : BytesOn x := by
  intro w vb vl hp hz hlen
  obtain ⟨ab, cb, rfl⟩ := hp.2.1.shape x.b.length rfl
  obtain ⟨al, cl, rfl⟩ := hp.2.2.shape
  have hle := len_eq x
  have hbe := bytes_eq x
  have hz2 : ∀ z ∈ x.b ++ Dm.cat x.l, byte z := fun z h => hz z (by rw [hbe]; exact List.mem_append_right _ h)
  have hTb : byte x.tag := hz x.tag (by rw [hbe]; simp)
  have hln : x.b.length + Dm.lens x.l ≤ 60000 := by rw [hle, List.length_append, Dm.cat_len] at hlen; omega
  have hm1 : x.l.length ≤ maxLen := by obtain ⟨_, _, _, q1, q2, _⟩ := hp.2.2; omega
  unfold maxLen at hm1
  have hb0 := (Below.refl w.heap.size w).alloc (Nat.le_refl _) (.cells #[.int .i64 x.tag, .slice ab x.b.length cb, .slice al x.l.length cl] 25)
  have q0 := Trip.new w 25 (.int .i64 x.tag) (.slice ab x.b.length cb) (.slice al x.l.length cl)
  have hp0 := hp.alloc (.cells #[.int .i64 x.tag, .slice ab x.b.length cb, .slice al x.l.length cl] 25)
  obtain ⟨T, hT⟩ : ∃ T, x.tag = T := ⟨_, rfl⟩
  obtain ⟨nb, hnb⟩ : ∃ n, x.b.length = n := ⟨_, rfl⟩
  obtain ⟨nl, hnl⟩ : ∃ n, x.l.length = n := ⟨_, rfl⟩
  rw [hT] at hTb hbe
  rw [hT, hnb, hnl] at q0 hb0 hp0
  rw [hnb] at hln
  rw [hnl] at hm1
  rw [hT, hnb, hnl]
  obtain ⟨W, hW⟩ : ∃ W, w.alloc (.cells #[.int .i64 T, .slice ab nb cb, .slice al nl cl] 25) = W := ⟨_, rfl⟩
  rw [hW] at q0 hb0 hp0
  have hWs : W.heap.size = w.heap.size + 1 := by rw [← hW, World.size_alloc]
  have a0 : AccR W (W.alloc (.cells #[] 5)) (.slice (some ⟨w.heap.size + 1, 0, none⟩) 0 0) [] := by rw [← hWs]; exact AccR.empty W
  have A0 := Lib.hid a0; have HZA := Lib.hid hz; have HWs := Lib.hid hWs
  have HP := Lib.hid hP; have HP0 := Lib.hid hp0; have HNL := Lib.hid hnl; have HNB := Lib.hid hnb; have HBE := Lib.hid hbe; have HZ := Lib.hid hz2; have HB0 := Lib.hid hb0; have Q0 := Lib.hid q0; have HLN := Lib.hid hln; have HTB := Lib.hid hTb; have HW := Lib.hid hW
  clear hT hnb hP hp hnl hz hz2 hbe hle hb0 q0 hp0 hlen hW hTb hWs a0
  have lnb : nb ≤ 60000 := by have := HLN.out; omega
  go_enter Tryd.func46, Tryd.ntmps46
  go_wp2_with (first
    | (at_builtin; rw [HW.out]; refine wpList_plain rfl fun Kx hKx => ?_; refine wp_app (.tmp 6) (.tmp 8) rfl W.heap.size A0.out.bel.size _ [] rfl A0.out.own _ x.b (A0.out.row HP0.out.2.1) rfl (by rw [HNB.out]; simp; omega) ?_; intro u4 w4 ap4
       have A1 := Lib.hid (A0.out.app ap4); refine hKx _ _ ?_; clear ap4)
    | fail)
  go_loopw [3, 4] (fun bv i wr => ∃ k : Nat, i = .int .i64 k ∧ k ≤ nl ∧ AccR W wr bv (x.b ++ Dm.cat (x.l.take k)) ∧ Trip wr w.heap.size 25 (.int .i64 T) (.slice ab nb cb) (.slice al nl cl)) (fun _ i _ => nl - (intOf i).toNat)
  case atStart => exact ⟨0, rfl, Nat.zero_le _, by simpa [Dm.cat] using A1.out, trip_stp Q0.out A1.out.bel⟩
  case round =>
    obtain ⟨k, rfl, hk, acc, hd⟩ := hrel
    have k0 : (0 : Int) ≤ (k : Int) := by omega
    have c0 := hd.cell0; have c1 := hd.cell1; have c2 := hd.cell2
    have AC := Lib.hid acc
    clear hd acc
    by_cases hlt : k < nl
    · have k1 : (k : Int) < (nl : Int) := by omega
      have e1 : IntKind.i64.wrap ((k : Int) + 1) = (k : Int) + 1 := IntWalk.i64_in _ (by omega)
      have hltl : k < x.l.length := by rw [HNL.out]; exact hlt
      have htk := cat_take hltl
      have hlk := lens_take hltl
      obtain ⟨b, off, ab2, cb2, al2, cl2, rfl, hbl, x0, x1, x2, hpy⟩ := HP0.out.2.2.at_ k hltl
      have x0 := (AC.out.bel.cell (p := ⟨b, _, none⟩) hbl).trans x0
      have x1 := (AC.out.bel.cell (p := ⟨b, _, none⟩) hbl).trans x1
      have x2 := (AC.out.bel.cell (p := ⟨b, _, none⟩) hbl).trans x2
      have hmem : x.l[k]?.getD Dm.no ∈ x.l := by rw [List.getElem?_eq_getElem hltl]; exact List.getElem_mem hltl
      obtain ⟨y, hy⟩ : ∃ y, x.l[k]?.getD Dm.no = y := ⟨_, rfl⟩
      rw [hy] at x0 x1 x2 hpy htk hlk hmem
      have hzy : ∀ z ∈ Dm.bytes y, byte z := fun z hz => HZ.out z (List.mem_append_right _ (by rw [← List.take_append_drop (k + 1) x.l, Dm.cat_append, htk]; exact List.mem_append_left _ (List.mem_append_right _ hz)))
      have hC := HP.out y hmem wr _ _ (hpy.below AC.out.bel) hzy (by have := HLN.out; omega)
      have hll : (x.b ++ Dm.cat (x.l.take k)).length + (Dm.bytes y).length ≤ 10000000 := by rw [List.length_append, Dm.cat_len, Dm.bytes_len, HNB.out]; have := HLN.out; omega
      have HZY := Lib.hid hzy; have HTK := Lib.hid htk; have HLL := Lib.hid hll
      clear hzy htk hlk hy hmem hpy hll
      go_wp2_with fail
      refine hC.mono ?_; rintro e w3 ⟨⟨v', rfl, own'⟩, hb3⟩
      have A2 := Lib.hid (AC.out.stp hb3); have R2 := Lib.hid (Row.of_bytes own' HZY.out)
      clear hC own' hb3 x0 x1 x2 c0 c1 c2
      go_wp2_with (first
        | (at_builtin; refine wpList_plain rfl fun Kx hKx => ?_; refine wp_app (.tmp 17) (.tmp 23) rfl W.heap.size A2.out.bel.size _ _ rfl A2.out.own _ (Dm.bytes y) R2.out rfl HLL.out ?_; intro u5 w5 ap5
           have A3 := Lib.hid (A2.out.app ap5); refine hKx _ _ ?_; clear ap5)
        | fail)
      have hA := A3.out
      rw [List.append_assoc, ← HTK.out] at hA
      go_roundw
      case rel => exact ⟨k + 1, by go_num, by omega, hA, trip_stp Q0.out hA.bel⟩
      case measure => simp [intOf]; omega
    · obtain rfl : k = nl := by omega
      have hA := AC.out
      rw [List.take_of_length_le (by rw [HNL.out]; exact Nat.le_refl _)] at hA
      have hrow := Row.of_bytes hA.own HZ.out
      obtain ⟨nm, hnm⟩ : ∃ n, (x.b ++ Dm.cat x.l).length = n := ⟨_, rfl⟩
      have hn6 : nm < 65536 := by rw [← hnm, List.length_append, Dm.cat_len, HNB.out]; have := HLN.out; omega
      have hbe := HBE.out
      rw [hnm] at hbe
      obtain ⟨av, cv, rfl⟩ := hrow.shape nm hnm
      have hC := rLength_any nm (wr.alloc (.cells #[.int .u8 T] 5)) hn6
      have ew : IntKind.u8.wrap T = T := by have := HTB.out; unfold byte at this; rw [IntKind.wrap_u8]; omega
      have A4 := Lib.hid (AccR.one wr T); have HRow := Lib.hid hrow; have HNM := Lib.hid hnm; have HBE2 := Lib.hid hbe; have HAb := Lib.hid hA.bel
      clear hA hrow hnm hbe
      go_wp2_with fail
      refine hC.mono ?_; rintro e w5 ⟨⟨v5, rfl, own5⟩, hb5⟩
      have hzl : ∀ z ∈ Dm.lenB nm, byte z := fun z hz => HZA.out z (by rw [HBE2.out]; exact List.mem_append_left _ (List.mem_append_right _ hz))
      have hll : (Dm.lenB nm).length ≤ 3 := by rw [Dm.lenB_length]; split <;> (try split) <;> omega
      have A5 := Lib.hid (A4.out.stp hb5); have R5 := Lib.hid (Row.of_bytes own5 hzl); have HLL := Lib.hid hll
      clear hC own5 hb5 hzl c0 c1 c2 hll
      go_wp2_with (first
        | (at_builtin; refine wpList_plain rfl fun Kx hKx => ?_; refine wp_app (.tmp 29) (.tmp 32) rfl wr.heap.size A5.out.bel.size _ _ rfl A5.out.own _ (Dm.lenB nm) R5.out rfl (by have := HLL.out; simp; omega) ?_; intro u6 w6 ap6
           have A6 := Lib.hid (A5.out.app ap6); refine hKx _ _ ?_; clear ap6)
        | (at_builtin; refine wpList_plain rfl fun Kx hKx => ?_; refine wp_app (.tmp 34) (.tmp 35) rfl wr.heap.size A6.out.bel.size _ _ rfl A6.out.own _ (x.b ++ Dm.cat x.l) (A6.out.row HRow.out) rfl (by rw [HNM.out, List.length_append]; have := HLL.out; simp; omega) ?_; intro u7 w7 ap7
           have A7 := Lib.hid (A6.out.app ap7); refine hKx _ _ ?_; clear ap7))
      go_ret
      have hown := A7.out.own
      rw [← HBE2.out] at hown
      have hwr : w.heap.size ≤ wr.heap.size := by have := HWs.out; have := HAb.out.size; omega
      exact ⟨⟨_, rfl, owns_base hown hwr⟩, (HB0.out.trans (HAb.out.mono (by have := HWs.out; omega))).trans (A7.out.bel.mono hwr)⟩
theorem bytes_le : ∀ (n : Nat) (x : Dm.It), Dm.wt x ≤ n → BytesOn x
  | 0, x, h => by have := Dm.wt_eq x; omega
  | n + 1, x, h => bytes_of x fun y hy => bytes_le n y (by have := Dm.wt_eq x; have := Dm.wts_mem hy; omega)
theorem Bytes_any (x : Dm.It) : BytesOn x := bytes_le _ x (Nat.le_refl _)
end Go.Proofs.YtpmiihmhfagfoaaDoor
