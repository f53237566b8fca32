/-
  The texts Co Tg Ut in one. (Merged by wip/lay12m.py.)
-/
import Derived.Test.YtlaidjgdipacgaaGreatDoorHs
import Derived.Test.YtlaidjgdipacgaaGreatDoorHp
import Derived.Test.YtlaidjgdipacgaaGreatDoorCn
import Derived.Test.YtlaidjgdipacgaaGreatDoorNu
import Derived.Test.YtlaidjgdipacgaaGreatDoorUd

section
namespace Go.Proofs.YtlaidjgdipacgaaGreatDoor
end Go.Proofs.YtlaidjgdipacgaaGreatDoor
end

section
namespace Go.Proofs.YtlaidjgdipacgaaGreatDoor
open Go.RowKit

theorem strCells_sieve : Lib.strCells { data := #[115, 105, 101, 118, 101] } = Sm.tag.map (Value.int .u8) := by kernel_rfl
theorem Sm.tagged_snoc (t : List Int) (ps : List (List Int)) (k : Nat) (h : k < ps.length) : Sm.tagged t (ps.take (k + 1)) = Sm.tagged t (ps.take k) ++ (Hm.be 4 (ps[k]?.getD []).length ++ ps[k]?.getD []) := by
  unfold Sm.tagged
  rw [List.take_succ_eq_append_getElem h, List.flatMap_append, List.getElem?_eq_getElem h]
  simp

set_option maxRecDepth 100000 in
set_option maxHeartbeats 2000000 in
theorem Tagged_sieve (vp : Value) (ps : List (List Int)) (w : World) (h : Rws .u8 w vp ps) (hp : ∀ i, i < ps.length → (ps[i]?.getD []).length ≤ 1000) (hn : ps.length ≤ 100) :
    Calls Tryz.prog 42 #[.string { data := #[115, 105, 101, 118, 101] }, vp] w fun e w' => e = .returned (.agg #[.int .u64 (Hm.sum (Sm.tagged Sm.tag ps)).a, .int .u64 (Hm.sum (Sm.tagged Sm.tag ps)).b]) ∧ Below w.heap.size w w' := by
  obtain ⟨j0, gi, gz0, gz1, gz2⟩ := info_parts info_u8
  have H := Lib.hid h; have HP := Lib.hid hp
  obtain ⟨a, cap, rfl, -, -⟩ := h.shape
  clear hp h
  obtain ⟨B, hB⟩ : ∃ B, w.heap.size = B := ⟨_, rfl⟩
  have dS := Duo.new w 53 (.int .u64 0) (.int .u64 0)
  have H1 := Lib.hid (H.out.alloc (.cells #[.int .u64 0, .int .u64 0] 53))
  have hbw := (Below.refl w.heap.size w).alloc (Nat.le_refl _) (.cells #[.int .u64 0, .int .u64 0] 53)
  go_enter Tryz.func42, Tryz.ntmps42
  obtain ⟨W, hW⟩ : ∃ W, w.alloc (.cells #[.int .u64 0, .int .u64 0] 53) = W := ⟨_, rfl⟩
  have hWs : W.heap.size = B + 1 := by rw [← hW, ← hB]; simp
  rw [hW] at dS H1 hbw
  rw [hB] at dS
  have HW := Lib.hid hW; have HB := Lib.hid hB
  have o1 : (W.alloc (.cells #[.int .u8 5] 5)).ownsRow (B + 1) 5 1 (.slice (some ⟨B + 1, 0, none⟩) 1 1) 1 [.int .u8 5] :=
    ⟨rfl, .inr ⟨B + 1, 1, #[.int .u8 5], rfl, Nat.le_refl _, by rw [← hWs]; show (W.heap.push _)[W.heap.size]? = _; simp, Nat.le_refl _, by unfold maxLen; omega, rfl, rfl⟩⟩
  have hb0 : Below (B + 1) W (W.alloc (.cells #[.int .u8 5] 5)) := (Below.refl _ W).alloc (by omega) _
  clear hW
  obtain ⟨_, _, V, e', -, -, -, h4, h5⟩ := H1.out
  cases e'
  have H4 := Lib.hid h4; have H5 := Lib.hid h5
  clear h4 h5 H1 H
  have o1' := o1
  rw [← HW.out] at o1'
  go_wp2_with (first
    | (at_builtin; go_loud (refine Lib.wpList_append_own_string _ rfl _ _ 22 9 rfl (B + 1) 5 j0 Tryz.underlying22 Tryz.underlying9 gi gz0 gz1 gz2 _ 1 [.int .u8 5] rfl o1' _ rfl (by decide) (by decide) (by simp; omega) ?_; intro v1 w1 own1 hg1 _))
    | fail)
  rw [HW.out] at hg1
  clear o1'
  have hb1 : Below (B + 1) W w1 := hb0.grown hg1 (by simp; omega) (fun k e => own_above o1 e)
  have own1' : w1.ownsRow (B + 1) 5 1 v1 (Sm.tagged Sm.tag (ps.take 0)).length ((Sm.tagged Sm.tag (ps.take 0)).map (Value.int .u8)) := by
    have e : [Value.int .u8 5] ++ Lib.strCells { data := #[115, 105, 101, 118, 101] } = (Sm.tagged Sm.tag (ps.take 0)).map (Value.int .u8) := by rw [strCells_sieve]; rfl
    rw [e] at own1
    exact own1
  clear own1 o1 hb0 hg1
  go_loopw [5, 7, 16] (fun v _ i wr => ∃ k : Nat, i = .int .i64 k ∧ k ≤ ps.length ∧ (Sm.tagged Sm.tag (ps.take k)).length ≤ 6 + k * 1004 ∧ wr.ownsRow (B + 1) 5 1 v (Sm.tagged Sm.tag (ps.take k)).length ((Sm.tagged Sm.tag (ps.take k)).map (Value.int .u8)) ∧ Below (B + 1) W wr) (fun _ _ i _ => ps.length - (intOf i).toNat)
  case atStart => exact ⟨0, rfl, Nat.zero_le _, by simp [Sm.tagged, Sm.tag], own1', hb1⟩
  case round =>
    obtain ⟨k, rfl, hk, hl, hown, hb⟩ := hrel
    clear own1' hb1
    by_cases hlt : k < ps.length
    · obtain ⟨b0, o0, rfl, hb00, hc0⟩ := H4.out (by rintro rfl; simp at hlt)
      have hck : wr.cell? ⟨b0, o0 + k, none⟩ = some (V k) := (hb.cell (p := ⟨b0, o0 + k, none⟩) (by show b0 < B + 1; omega)).trans (hc0 k hlt)
      have hrW := H5.out k hlt
      have hpk := HP.out k hlt
      have hsn := Sm.tagged_snoc Sm.tag ps k hlt
      obtain ⟨P, hP⟩ : ∃ P, ps[k]?.getD [] = P := ⟨_, rfl⟩
      obtain ⟨L, hL⟩ : ∃ L, Sm.tagged Sm.tag (ps.take k) = L := ⟨_, rfl⟩
      obtain ⟨L2, hL2⟩ : ∃ L, Sm.tagged Sm.tag (ps.take (k + 1)) = L := ⟨_, rfl⟩
      rw [hL] at hl hown hsn
      rw [hP] at hrW hpk hsn
      rw [hL2] at hsn
      obtain ⟨ak, ck, hV0⟩ := hrW.shape P.length rfl
      rw [hV0] at hck hrW
      have HRW := Lib.hid hrW
      have HSn := Lib.hid hsn; have HL2 := Lib.hid hL2
      have k1 : (k : Int) < (ps.length : Int) := by omega
      have k0 : (0 : Int) ≤ (k : Int) := by omega
      have e1 : IntKind.i64.wrap ((k : Int) + 1) = (k : Int) + 1 := IntWalk.i64_in _ (by omega)
      have e2 : IntKind.u64.wrap (P.length : Int) = (P.length : Int) := by rw [IntKind.wrap_u64]; omega
      clear hc0 hsn hL2 hL hP hV0 hrW
      have hbs := hb.size
      go_wp2_with fail
      refine (hput_any (B + 1) _ L P.length 4 _ hown (by decide) (by omega) (by omega)).mono ?_; rintro e w2 ⟨v2, rfl, own2, hb2⟩
      have rk2 : Row .u8 w2 (.slice ak P.length ck) P := HRW.out.below ((hb.trans hb2).mono (by omega))
      go_wp2_with (first
        | (at_builtin; refine wpList_append_row rfl _ _ 22 rfl (B + 1) 5 j0 (.int .u8 0) 1 Tryz.underlying22 gi gz0 gz1 gz2 rfl _ _ _ rfl own2 .u8 _ P (by exact rk2) rfl (by simp [Hm.be_length]; unfold maxLen; omega) (by simp [Hm.be_length]; omega) (by have := hb2.size; omega) ?_; intro v3 w3 own3 hb3)
        | fail)
      have own4 : w3.ownsRow (B + 1) 5 1 v3 L2.length (L2.map (Value.int .u8)) := by
        have e : (L ++ Hm.be 4 P.length).map (Value.int .u8) ++ P.map (Value.int .u8) = L2.map (Value.int .u8) := by rw [HSn.out]; simp
        have e' : (L ++ Hm.be 4 P.length).length + P.length = L2.length := by rw [HSn.out]; simp; omega
        rw [e, e'] at own3; exact own3
      have hl2 : L2.length ≤ 6 + (k + 1) * 1004 := by rw [HSn.out]; simp [Hm.be_length]; omega
      have hb4 : Below (B + 1) W w3 := (hb.trans hb2).trans hb3
      rw [← HL2.out] at own4 hl2
      have HO := Lib.hid own4; have HL := Lib.hid hl2
      clear own4 hl2 own3 own2 hown hl
      go_wp2_with fail
      go_roundw
      case rel => exact ⟨k + 1, by go_num, by omega, HL.out, HO.out, hb4⟩
      case measure => simp [intOf]; omega
    · obtain rfl : k = ps.length := by omega
      rw [List.take_length] at hown hl
      have hby : ∀ x ∈ Sm.tagged Sm.tag ps, byte x := by
        intro x hx
        unfold Sm.tagged at hx
        rcases List.mem_cons.1 hx with rfl | hx
        · exact ⟨by decide, by decide⟩
        rcases List.mem_append.1 hx with hx | hx
        · have : ∀ y ∈ Sm.tag, byte y := by intro y hy; simp [Sm.tag] at hy; rcases hy with rfl | rfl | rfl | rfl | rfl <;> exact ⟨by decide, by decide⟩
          exact this x hx
        · obtain ⟨p, hp, hx⟩ := List.mem_flatMap.1 hx
          rcases List.mem_append.1 hx with hx | hx
          · exact Hm.be_byte _ _ x hx
          · obtain ⟨i, hi, rfl⟩ := List.getElem_of_mem hp
            have := H5.out i hi
            rw [List.getElem?_eq_getElem hi] at this
            exact this.all_byte x hx
      obtain ⟨L, hL⟩ : ∃ L, Sm.tagged Sm.tag ps = L := ⟨_, rfl⟩
      rw [hL] at hown hl hby
      have HLn := Lib.hid hL
      have hrow := owns_row hown hby
      obtain ⟨av, cv, rfl⟩ := hrow.shape L.length rfl
      obtain ⟨sa, hsa⟩ : ∃ sa, (Hm.sum L).a = sa := ⟨_, rfl⟩
      obtain ⟨sb, hsb⟩ : ∃ sb, (Hm.sum L).b = sb := ⟨_, rfl⟩
      have dW : Duo wr B 53 (.int .u64 0) (.int .u64 0) := dS.kept hb (by omega)
      have Hsa := Lib.hid hsa; have Hsb := Lib.hid hsb
      clear hby hL hown
      go_wp2_with fail
      refine (Sum_any _ L _ hrow (by omega)).mono ?_; rintro e w5 ⟨rfl, hb5⟩
      rw [hsa, hsb]
      clear hsa hsb
      have d5 := dW.kept hb5 dW.lt
      have d0 := d5.cell0
      have d1 := d5.cell1
      have g0 := d5.free 0
      have g1 := d5.free 1
      have hbs := hb.size
      go_wp2_with fail
      have hz : Duo ((w5.setCell ⟨B, 0, none⟩ (.int .u64 sa)).setCell ⟨B, 1, none⟩ (.int .u64 sb)) B 53 (.int .u64 sa) (.int .u64 sb) := (d5.set0 _).set1 _
      refine bodyPost_ret (v := .agg #[.int .u64 sa, .int .u64 sb]) ?_ rfl ⟨by rw [HLn.out, Hsa.out, Hsb.out], ?_⟩
      · exact results_cell_row (p := 4) (ty := 53) rfl _ _ B _ _ _ _ rfl hz rfl rfl rfl
      · have q1 : Below w.heap.size w w5 := (hbw.trans (hb.mono (by omega))).trans (hb5.mono (by omega))
        exact (q1.setCell (by rw [HB.out]; simp) _).setCell (by rw [HB.out]; simp) _
end Go.Proofs.YtlaidjgdipacgaaGreatDoor
end

section
namespace Go.Proofs.YtlaidjgdipacgaaGreatDoor
open Go.RowKit

set_option maxRecDepth 100000 in
set_option maxHeartbeats 2000000 in
theorem Tagged_any (s : ByteArray) (T : List Int) (hT : Lib.strCells s = T.map (Value.int .u8)) (hs : s.size = T.length) (hTb : ∀ y ∈ T, byte y) (hTl : T.length ≤ 20) (vp : Value) (ps : List (List Int)) (w : World) (h : Rws .u8 w vp ps) (hp : ∀ i, i < ps.length → (ps[i]?.getD []).length ≤ 10000) (hn : ps.length ≤ 50) :
    Calls Tryz.prog 42 #[.string s, vp] w fun e w' => e = .returned (.agg #[.int .u64 (Hm.sum (Sm.tagged T ps)).a, .int .u64 (Hm.sum (Sm.tagged T ps)).b]) ∧ Below w.heap.size w w' := by
  obtain ⟨j0, gi, gz0, gz1, gz2⟩ := info_parts info_u8
  obtain ⟨N, hN⟩ : ∃ N : Int, (T.length : Int) = N := ⟨_, rfl⟩
  have e0 : IntKind.u8.wrap ((s.size : Nat) : Int) = N := by rw [hs, IntKind.wrap_u8]; omega
  have HT := Lib.hid hT; have HTB := Lib.hid hTb; have HTL := Lib.hid hTl; have HSZ := Lib.hid hs; have HNN := Lib.hid hN
  clear hT hTb hTl hs hN
  have H := Lib.hid h; have HP := Lib.hid hp
  obtain ⟨a, cap, rfl, -, -⟩ := h.shape
  clear hp h
  obtain ⟨B, hB⟩ : ∃ B, w.heap.size = B := ⟨_, rfl⟩
  have dS := Duo.new w 53 (.int .u64 0) (.int .u64 0)
  have H1 := Lib.hid (H.out.alloc (.cells #[.int .u64 0, .int .u64 0] 53))
  have hbw := (Below.refl w.heap.size w).alloc (Nat.le_refl _) (.cells #[.int .u64 0, .int .u64 0] 53)
  go_enter Tryz.func42, Tryz.ntmps42
  obtain ⟨W, hW⟩ : ∃ W, w.alloc (.cells #[.int .u64 0, .int .u64 0] 53) = W := ⟨_, rfl⟩
  have hWs : W.heap.size = B + 1 := by rw [← hW, ← hB]; simp
  rw [hW] at dS H1 hbw
  rw [hB] at dS
  have HW := Lib.hid hW; have HB := Lib.hid hB
  have o1 : (W.alloc (.cells #[.int .u8 N] 5)).ownsRow (B + 1) 5 1 (.slice (some ⟨B + 1, 0, none⟩) 1 1) 1 [.int .u8 N] :=
    ⟨rfl, .inr ⟨B + 1, 1, #[.int .u8 N], rfl, Nat.le_refl _, by rw [← hWs]; show (W.heap.push _)[W.heap.size]? = _; simp, Nat.le_refl _, by unfold maxLen; omega, rfl, rfl⟩⟩
  have hb0 : Below (B + 1) W (W.alloc (.cells #[.int .u8 N] 5)) := (Below.refl _ W).alloc (by omega) _
  clear hW
  obtain ⟨_, _, V, e', -, -, -, h4, h5⟩ := H1.out
  cases e'
  have H4 := Lib.hid h4; have H5 := Lib.hid h5
  clear h4 h5 H1 H
  have o1' := o1
  rw [← HW.out] at o1'
  go_wp2_with (first
    | (at_builtin; go_loud (refine Lib.wpList_append_own_string _ rfl _ _ 22 9 rfl (B + 1) 5 j0 Tryz.underlying22 Tryz.underlying9 gi gz0 gz1 gz2 _ 1 [.int .u8 N] rfl o1' _ rfl (by have := HTL.out; have := HSZ.out; first | omega | (unfold maxLen; omega)) (by have := HTL.out; have := HSZ.out; first | omega | (unfold maxLen; omega)) (by simp; omega) ?_; intro v1 w1 own1 hg1 _))
    | fail)
  rw [HW.out] at hg1
  clear o1'
  have hb1 : Below (B + 1) W w1 := hb0.grown hg1 (by simp; omega) (fun k e => own_above o1 e)
  have own1' : w1.ownsRow (B + 1) 5 1 v1 (Sm.tagged T (ps.take 0)).length ((Sm.tagged T (ps.take 0)).map (Value.int .u8)) := by
    have e : [Value.int .u8 N] ++ Lib.strCells s = (Sm.tagged T (ps.take 0)).map (Value.int .u8) := by rw [HT.out, ← HNN.out]; simp [Sm.tagged]
    have e2 : 1 + s.size = (Sm.tagged T (ps.take 0)).length := by rw [HSZ.out]; simp [Sm.tagged]; omega
    rw [e, e2] at own1
    exact own1
  clear own1 o1 hb0 hg1
  go_loopw [5, 7, 16] (fun v _ i wr => ∃ k : Nat, i = .int .i64 k ∧ k ≤ ps.length ∧ (Sm.tagged T (ps.take k)).length ≤ 21 + k * 10004 ∧ wr.ownsRow (B + 1) 5 1 v (Sm.tagged T (ps.take k)).length ((Sm.tagged T (ps.take k)).map (Value.int .u8)) ∧ Below (B + 1) W wr) (fun _ _ i _ => ps.length - (intOf i).toNat)
  case atStart => exact ⟨0, rfl, Nat.zero_le _, by have := HTL.out; simp [Sm.tagged]; omega, own1', hb1⟩
  case round =>
    obtain ⟨k, rfl, hk, hl, hown, hb⟩ := hrel
    clear own1' hb1
    by_cases hlt : k < ps.length
    · obtain ⟨b0, o0, rfl, hb00, hc0⟩ := H4.out (by rintro rfl; simp at hlt)
      have hck : wr.cell? ⟨b0, o0 + k, none⟩ = some (V k) := (hb.cell (p := ⟨b0, o0 + k, none⟩) (by show b0 < B + 1; omega)).trans (hc0 k hlt)
      have hrW := H5.out k hlt
      have hpk := HP.out k hlt
      have hsn := Sm.tagged_snoc T ps k hlt
      obtain ⟨P, hP⟩ : ∃ P, ps[k]?.getD [] = P := ⟨_, rfl⟩
      obtain ⟨L, hL⟩ : ∃ L, Sm.tagged T (ps.take k) = L := ⟨_, rfl⟩
      obtain ⟨L2, hL2⟩ : ∃ L, Sm.tagged T (ps.take (k + 1)) = L := ⟨_, rfl⟩
      rw [hL] at hl hown hsn
      rw [hP] at hrW hpk hsn
      rw [hL2] at hsn
      obtain ⟨ak, ck, hV0⟩ := hrW.shape P.length rfl
      rw [hV0] at hck hrW
      have HRW := Lib.hid hrW
      have HSn := Lib.hid hsn; have HL2 := Lib.hid hL2
      have k1 : (k : Int) < (ps.length : Int) := by omega
      have k0 : (0 : Int) ≤ (k : Int) := by omega
      have e1 : IntKind.i64.wrap ((k : Int) + 1) = (k : Int) + 1 := IntWalk.i64_in _ (by omega)
      have e2 : IntKind.u64.wrap (P.length : Int) = (P.length : Int) := by rw [IntKind.wrap_u64]; omega
      clear hc0 hsn hL2 hL hP hV0 hrW
      have hbs := hb.size
      go_wp2_with fail
      refine (hput_any (B + 1) _ L P.length 4 _ hown (by decide) (by omega) (by omega)).mono ?_; rintro e w2 ⟨v2, rfl, own2, hb2⟩
      have rk2 : Row .u8 w2 (.slice ak P.length ck) P := HRW.out.below ((hb.trans hb2).mono (by omega))
      go_wp2_with (first
        | (at_builtin; refine wpList_append_row rfl _ _ 22 rfl (B + 1) 5 j0 (.int .u8 0) 1 Tryz.underlying22 gi gz0 gz1 gz2 rfl _ _ _ rfl own2 .u8 _ P (by exact rk2) rfl (by simp [Hm.be_length]; unfold maxLen; omega) (by simp [Hm.be_length]; omega) (by have := hb2.size; omega) ?_; intro v3 w3 own3 hb3)
        | fail)
      have own4 : w3.ownsRow (B + 1) 5 1 v3 L2.length (L2.map (Value.int .u8)) := by
        have e : (L ++ Hm.be 4 P.length).map (Value.int .u8) ++ P.map (Value.int .u8) = L2.map (Value.int .u8) := by rw [HSn.out]; simp
        have e' : (L ++ Hm.be 4 P.length).length + P.length = L2.length := by rw [HSn.out]; simp; omega
        rw [e, e'] at own3; exact own3
      have hl2 : L2.length ≤ 21 + (k + 1) * 10004 := by rw [HSn.out]; simp [Hm.be_length]; omega
      have hb4 : Below (B + 1) W w3 := (hb.trans hb2).trans hb3
      rw [← HL2.out] at own4 hl2
      have HO := Lib.hid own4; have HL := Lib.hid hl2
      clear own4 hl2 own3 own2 hown hl
      go_wp2_with fail
      go_roundw
      case rel => exact ⟨k + 1, by go_num, by omega, HL.out, HO.out, hb4⟩
      case measure => simp [intOf]; omega
    · obtain rfl : k = ps.length := by omega
      rw [List.take_length] at hown hl
      have hby : ∀ x ∈ Sm.tagged T ps, byte x := by
        intro x hx
        unfold Sm.tagged at hx
        rcases List.mem_cons.1 hx with rfl | hx
        · have := HTL.out; exact ⟨by omega, by omega⟩
        rcases List.mem_append.1 hx with hx | hx
        · exact HTB.out x hx
        · obtain ⟨p, hp, hx⟩ := List.mem_flatMap.1 hx
          rcases List.mem_append.1 hx with hx | hx
          · exact Hm.be_byte _ _ x hx
          · obtain ⟨i, hi, rfl⟩ := List.getElem_of_mem hp
            have := H5.out i hi
            rw [List.getElem?_eq_getElem hi] at this
            exact this.all_byte x hx
      obtain ⟨L, hL⟩ : ∃ L, Sm.tagged T ps = L := ⟨_, rfl⟩
      rw [hL] at hown hl hby
      have HLn := Lib.hid hL
      have hrow := owns_row hown hby
      obtain ⟨av, cv, rfl⟩ := hrow.shape L.length rfl
      obtain ⟨sa, hsa⟩ : ∃ sa, (Hm.sum L).a = sa := ⟨_, rfl⟩
      obtain ⟨sb, hsb⟩ : ∃ sb, (Hm.sum L).b = sb := ⟨_, rfl⟩
      have dW : Duo wr B 53 (.int .u64 0) (.int .u64 0) := dS.kept hb (by omega)
      have Hsa := Lib.hid hsa; have Hsb := Lib.hid hsb
      clear hby hL hown
      go_wp2_with fail
      refine (Sum_any _ L _ hrow (by omega)).mono ?_; rintro e w5 ⟨rfl, hb5⟩
      rw [hsa, hsb]
      clear hsa hsb
      have d5 := dW.kept hb5 dW.lt
      have d0 := d5.cell0
      have d1 := d5.cell1
      have g0 := d5.free 0
      have g1 := d5.free 1
      have hbs := hb.size
      go_wp2_with fail
      have hz : Duo ((w5.setCell ⟨B, 0, none⟩ (.int .u64 sa)).setCell ⟨B, 1, none⟩ (.int .u64 sb)) B 53 (.int .u64 sa) (.int .u64 sb) := (d5.set0 _).set1 _
      refine bodyPost_ret (v := .agg #[.int .u64 sa, .int .u64 sb]) ?_ rfl ⟨by rw [HLn.out, Hsa.out, Hsb.out], ?_⟩
      · exact results_cell_row (p := 4) (ty := 53) rfl _ _ B _ _ _ _ rfl hz rfl rfl rfl
      · have q1 : Below w.heap.size w w5 := (hbw.trans (hb.mono (by omega))).trans (hb5.mono (by omega))
        exact (q1.setCell (by rw [HB.out]; simp) _).setCell (by rw [HB.out]; simp) _
set_option maxRecDepth 100000 in
set_option maxHeartbeats 1000000 in
theorem Num_at (a b m : Int) (w : World) (ha0 : 0 ≤ a) (ha1 : a < 2305843009213693952) (hb0 : 0 ≤ b) (hb1 : b < 2305843009213693952) (hm : 8 ≤ m)
    (hD : ∀ (hi lo : Int) (W : World), 0 ≤ hi → hi < m → 0 ≤ lo → lo < 18446744073709551616 → Calls Tryz.prog 92 #[.int .u64 hi, .int .u64 lo, .int .u64 m] W fun e w' => (∃ q, e = .returned (.tuple #[.int .u64 q, .int .u64 ((hi * 18446744073709551616 + lo) % m)])) ∧ Below W.heap.size W w') :
    Calls Tryz.prog 57 #[.agg #[.int .u64 a, .int .u64 b], .int .u64 m] w fun e w' => e = .returned (.int .u64 (Sm.num a b m)) ∧ Below w.heap.size w w' := by
  obtain ⟨n, rfl⟩ := Int.eq_ofNat_of_zero_le ha0
  obtain ⟨q, hq⟩ : ∃ q : Nat, (q : Int) = 2305843009213693952 := ⟨2305843009213693952, rfl⟩
  have hqn : n * q = n * 2305843009213693952 := by rw [show q = 2305843009213693952 by omega]
  obtain ⟨h, hh⟩ : ∃ h : Int, ((n * q / 18446744073709551616 : Nat) : Int) = h := ⟨_, rfl⟩
  obtain ⟨l, hl⟩ : ∃ l : Int, ((n * q % 18446744073709551616 : Nat) : Int) = l := ⟨_, rfl⟩
  rw [hqn] at hh hl
  have hl0 : 0 ≤ l := by omega
  have hlb : l + b < 18446744073709551616 := by omega
  have hv : (n : Int) * 2305843009213693952 + b = h * 18446744073709551616 + (l + b) := by omega
  have hh0 : 0 ≤ h := by omega
  have hhb : h < 2305843009213693952 := by omega
  obtain ⟨r, hr⟩ : ∃ r : Int, h % m = r := ⟨_, rfl⟩
  have hr0 : 0 ≤ r := by rw [← hr]; exact Int.emod_nonneg _ (by omega)
  have hrm : r < m := by rw [← hr]; exact Int.emod_lt_of_pos _ (by omega)
  have e1 : h.tmod m = r := by rw [Int.tmod_eq_emod_of_nonneg hh0, hr]
  have e2 : (r * 18446744073709551616 + (l + b)) % m = Sm.num n b m := by
    unfold Sm.num
    rw [hv, ← hr, Int.add_emod, Int.mul_emod, Int.emod_emod, ← Int.mul_emod, ← Int.add_emod]
  have hmz : ¬ m = 0 := by omega
  have S := Sh.bits_Mul64 n q (by omega) (by omega)
  rw [hqn, hh, hl, hq] at S
  have A := add64_0 l b hl0 hb0 hlb
  have D := fun W => hD r (l + b) W hr0 hrm (by omega) hlb
  rw [e2] at D
  have w0 : IntKind.u64.wrap (h + 0) = h := by rw [IntKind.wrap_u64]; omega
  have w1 : IntKind.u64.wrap h = h := by rw [IntKind.wrap_u64]; omega
  clear hh hl hqn hq hl0 hlb hv hh0 hhb hr hr0 hrm e2 ha0 ha1 hb0 hb1 hm hD
  have dS := Duo.new w 53 (.int .u64 n) (.int .u64 b)
  have s0 := dS.cell0; have s1 := dS.cell1
  go_enter Tryz.func57, Tryz.ntmps57
  go_wp2_with fail
  refine (S _).mono ?_; rintro e w' ⟨rfl, rfl⟩
  go_wp2_with fail
  refine (D _).mono ?_; rintro e w' ⟨⟨q, rfl⟩, hb⟩
  go_wp2_with fail
  go_ret
  exact ⟨rfl, ((Below.refl _ w).alloc (Nat.le_refl _) _).trans (hb.mono (by simp))⟩
theorem Num_R (a b : Int) (w : World) (ha0 : 0 ≤ a) (ha1 : a < 2305843009213693952) (hb0 : 0 ≤ b) (hb1 : b < 2305843009213693952) :
    Calls Tryz.prog 57 #[.agg #[.int .u64 a, .int .u64 b], .int .u64 1152921504606845789] w fun e w' => e = .returned (.int .u64 (Sm.num a b 1152921504606845789)) ∧ Below w.heap.size w w' :=
  Num_at a b _ w ha0 ha1 hb0 hb1 (by decide) fun hi lo W h0 h1 l0 l1 => Div64_R hi lo W h0 h1 l0 l1
theorem Num_R1 (a b : Int) (w : World) (ha0 : 0 ≤ a) (ha1 : a < 2305843009213693952) (hb0 : 0 ≤ b) (hb1 : b < 2305843009213693952) :
    Calls Tryz.prog 57 #[.agg #[.int .u64 a, .int .u64 b], .int .u64 1152921504606845788] w fun e w' => e = .returned (.int .u64 (Sm.num a b 1152921504606845788)) ∧ Below w.heap.size w w' :=
  Num_at a b _ w ha0 ha1 hb0 hb1 (by decide) fun hi lo W h0 h1 l0 l1 => Div64_R1 hi lo W h0 h1 l0 l1
end Go.Proofs.YtlaidjgdipacgaaGreatDoor
end
