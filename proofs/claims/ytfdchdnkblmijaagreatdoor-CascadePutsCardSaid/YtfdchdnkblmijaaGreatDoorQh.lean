/-
  The walk over greatsealref10.Get.
-/
import Derived.Test.YtfdchdnkblmijaaGreatDoorQf
import Derived.Maps.AppendAt
namespace Go.Proofs.YtfdchdnkblmijaaGreatDoor
open Go.RowKit

theorem info_row10 : (Tryz.prog.info? 25).map (fun i => (i.zero, i.size, i.bytes)) = some (some (.slice none 0 0), 1, 24) := by kernel_rfl
/-- A slice of slices of bytes that the call itself owns, the bytes too. -/
def RwsO (W : World) (base : Nat) (v : Value) (ls : List (List Int)) : Prop :=
  ∃ vs : List Value, W.ownsRow base 25 1 v ls.length vs ∧ ∀ i, i < ls.length → OwnB W base (vs[i]?.getD undef) (ls[i]?.getD [])
theorem RwsO.below {W W' : World} {base : Nat} {v : Value} {ls : List (List Int)} (h : RwsO W base v ls) (hb : Below W.heap.size W W') : RwsO W' base v ls := by
  obtain ⟨vs, h1, h2⟩ := h
  exact ⟨vs, owns_keep h1 hb, fun i hi => owns_keep (h2 i hi) hb⟩
theorem RwsO.rws {W : World} {base : Nat} {v : Value} {ls : List (List Int)} (h : RwsO W base v ls) (hb : ∀ l ∈ ls, ∀ x ∈ l, byte x) : Rws .u8 W v ls := by
  obtain ⟨vs, h1, h2⟩ := h
  refine Rws.of_owns h1 fun i hi => Row.of_bytes (h2 i hi) ?_
  rw [List.getElem?_eq_getElem hi]
  exact hb _ (List.getElem_mem hi)
theorem RwsO.snoc {W W1 : World} {base : Nat} {v v' r : Value} {ls : List (List Int)} {l : List Int} {vs : List Value} (h : W.ownsRow base 25 1 v ls.length vs) (hr : ∀ i, i < ls.length → OwnB W base (vs[i]?.getD undef) (ls[i]?.getD []))
    (hl : OwnB W base r l) (h' : W1.ownsRow base 25 1 v' (ls.length + 1) (vs ++ [r])) (hg : W.grownBy W1 v.ownBlock) : RwsO W1 base v' (ls ++ [l]) := by
  have hvl : vs.length = ls.length := by have := h.1; omega
  refine ⟨vs ++ [r], by simpa using h', fun i hi => ?_⟩
  by_cases hlt : i < ls.length
  · rw [List.getElem?_append_left (by omega), List.getElem?_append_left hlt]
    exact (hr i hlt).kept hg (own_type_ne (hr i hlt) h (by decide))
  · have : i = ls.length := by simp at hi; omega
    subst this
    rw [← hvl, List.getElem?_append_right (Nat.le_refl _), hvl, List.getElem?_append_right (Nat.le_refl _)]
    simp only [Nat.sub_self, List.getElem?_cons_zero, Option.getD_some]
    exact hl.kept hg (own_type_ne hl h (by decide))

/-- How large what items hands back may be. -/
theorem itemsV_fits {l : List Int} (hb : ∀ y ∈ l, byte y) : (itemsV l).1.length ≤ 8192 ∧ ∀ x ∈ (itemsV l).1, Dm.wt x ≤ 8192 := by
  unfold itemsV
  obtain ⟨R, hR⟩ : ∃ R, getAt l 0 = R := ⟨_, rfl⟩
  rw [hR]
  cases R with
  | error e => exact ⟨by simp [itemsW], by simp [itemsW]⟩
  | ok p =>
    obtain ⟨x, n⟩ := p
    have hsz := getAt_size hb hR
    unfold itemsW
    dsimp only
    split
    · unfold seqV
      split
      · exact ⟨hsz.2.1, hsz.2.2⟩
      · exact ⟨by simp, by simp⟩
    · exact ⟨by simp, by simp⟩
namespace Cm
theorem get_err {l : List Int} {E : Int} (h : (itemsV l).2 = E) (h0 : E ≠ 0) : get l = .error E := by
  unfold get
  rw [items_of, if_neg (by rw [h]; exact h0), h]
theorem get_nil {l : List Int} (h : (itemsV l).2 = 0) (h1 : (itemsV l).1 = []) : get l = .error 71 := by
  unfold get
  rw [items_of, if_pos h, h1]; rfl
theorem get_bad {l : List Int} {x : Dm.It} {U : List Dm.It} {F : Int} (h : (itemsV l).2 = 0) (h1 : (itemsV l).1 = x :: U) (hF : asE x 2 = F) (h0 : F ≠ 0) : get l = .error F := by
  unfold get
  rw [items_of, if_pos h, h1, if_neg (by simp)]
  show (match asI x with | .error e => Except.error e | .ok day => rest (fun _ => asO) day U) = _
  have : asI x = .error F := by unfold asI; rw [if_neg (by rw [hF]; exact h0), hF]
  rw [this]
theorem get_day {l : List Int} {x : Dm.It} {U : List Dm.It} (h : (itemsV l).2 = 0) (h1 : (itemsV l).1 = x :: U) (hF : asE x 2 = 0) : get l = restS (fun _ => asO) (intV x) (.ok U) := by
  unfold get
  rw [items_of, if_pos h, h1, if_neg (by simp)]
  show (match asI x with | .error e => Except.error e | .ok day => rest (fun _ => asO) day U) = _
  have : asI x = .ok (intV x) := by unfold asI intV; rw [if_pos hF, if_pos hF]
  rw [this]; rfl
end Cm
theorem drop_cons {α : Type} {l : List α} {j : Nat} {d : α} (h : j < l.length) : l.drop j = (l[j]?.getD d) :: l.drop (j + 1) := by
  rw [List.drop_eq_getElem_cons h, List.getElem?_eq_getElem h]; rfl

set_option maxRecDepth 100000 in
set_option maxHeartbeats 4000000 in
theorem Get10_any (v : Value) (l : List Int) (w : World) (h : Row .u8 w v l) (hl : l.length ≤ 1000000) :
    Calls Tryz.prog 9 #[v] w fun e w' => CascR w' e (Cm.get l) ∧ Below w.heap.size w w' := by
  obtain ⟨a, c, rfl⟩ := h.shape l.length rfl
  have hfit := itemsV_fits h.all_byte
  obtain ⟨n, hn⟩ : ∃ n, l.length = n := ⟨_, rfl⟩
  obtain ⟨B, hB⟩ : ∃ B, w.heap.size = B := ⟨_, rfl⟩
  have q0 := Duo.new w 24 (.int .i64 0) (.slice none 0 0)
  have hb0 := (Below.refl w.heap.size w).alloc (Nat.le_refl _) (.cells #[.int .i64 0, .slice none 0 0] 24)
  have hI := items10_any _ l _ (h.below hb0) hl
  obtain ⟨W, hW⟩ : ∃ W, w.alloc (.cells #[.int .i64 0, .slice none 0 0] 24) = W := ⟨_, rfl⟩
  rw [hW] at q0 hb0 hI
  rw [hB] at q0
  rw [hn] at hI ⊢
  obtain ⟨Z, hZ⟩ : ∃ Z, Cm.get l = Z := ⟨_, rfl⟩
  obtain ⟨U, hU⟩ : ∃ U, (itemsV l).1 = U := ⟨_, rfl⟩
  obtain ⟨E, hE⟩ : ∃ E, (itemsV l).2 = E := ⟨_, rfl⟩
  rw [hU, hE] at hI
  rw [hU] at hfit
  rw [hZ]
  have HW := Lib.hid hW; have HB := Lib.hid hB; have HB0 := Lib.hid hb0; have Q0 := Lib.hid q0; have HZ := Lib.hid hZ; have HU := Lib.hid hU; have HE := Lib.hid hE; have HFit := Lib.hid hfit
  clear hW hB hb0 q0 hZ hU hE hfit h hn
  go_enter Tryz.func9, Tryz.ntmps9
  go_wp2_with fail
  rw [HW.out, HB.out]
  (try go_wp2_with fail)
  refine hI.mono ?_; rintro e w1 ⟨⟨a1, c1, rfl, hit⟩, hb1⟩
  have d1 : Duo w1 B 24 (.int .i64 0) (.slice none 0 0) := Q0.out.stp hb1
  have HB1 := Lib.hid (HB0.out.trans (hb1.mono HB0.out.size))
  have D1 := Lib.hid d1
  have r0 := d1.cell0; have r1 := d1.cell1; have rl := d1.lt
  have f0 : w1.frozen? ⟨B, 0, none⟩ = false := d1.free 0
  have f1 : w1.frozen? ⟨B, 1, none⟩ = false := d1.free 1
  clear hI hb1 d1
  by_cases h0 : E = 0
  case neg =>
    have hz : Z = .error E := by rw [← HZ.out]; exact Cm.get_err HE.out h0
    have HZ2 := Lib.hid hz
    clear hz
    go_wp2_with fail
    refine bodyPost_ret (casc_none rfl rfl rfl (duo_casc2 D1.out _ _)) rfl ?_
    rw [HZ2.out]
    exact ⟨rfl, (HB1.out.setCell (by rw [HB.out]; exact Nat.le_refl _) _).setCell (by rw [HB.out]; exact Nat.le_refl _) _⟩
  subst h0
  match U, hit, HU, HFit with
  | [], hit, HU, HFit =>
    have hz : Z = .error 71 := by rw [← HZ.out]; exact Cm.get_nil HE.out HU.out
    have HZ2 := Lib.hid hz
    clear hz hit
    go_wp2_with fail
    refine bodyPost_ret (casc_none rfl rfl rfl (duo_casc2 D1.out _ _)) rfl ?_
    rw [HZ2.out]
    exact ⟨rfl, (HB1.out.setCell (by rw [HB.out]; exact Nat.le_refl _) _).setCell (by rw [HB.out]; exact Nat.le_refl _) _⟩
  | x :: U', hit, HU, HFit =>
    have hcn : (x :: U').length ≤ c1 := by obtain ⟨_, _, e', h1, _⟩ := hit; cases e'; exact h1
    have hx0 := hit.at_ 0 (by simp)
    obtain ⟨b, o, ab, cb, al, cl, rfl, hlt, x0, x1, x2, ip⟩ := hx0
    simp only [List.getElem?_cons_zero, Option.getD_some, Nat.zero_mul, Nat.add_zero] at x0 x1 x2 ip
    have hwx := HFit.out.2 x (by simp)
    have hlen := HFit.out.1
    have hA := rAsInt_val x _ _ w1 ip (by omega)
    obtain ⟨m, hm⟩ : ∃ m, (x :: U').length = m := ⟨_, rfl⟩
    have hmu : m = U'.length + 1 := by rw [← hm]; rfl
    obtain ⟨F, hF⟩ : ∃ F, asE x 2 = F := ⟨_, rfl⟩
    obtain ⟨day, hday⟩ : ∃ d, intV x = d := ⟨_, rfl⟩
    rw [hF, hday] at hA
    rw [hm] at hit hcn hlen ⊢
    obtain ⟨T, hT⟩ : ∃ T, x.tag = T := ⟨_, rfl⟩
    obtain ⟨nb, hnb⟩ : ∃ T, x.b.length = T := ⟨_, rfl⟩
    obtain ⟨nl, hnl⟩ : ∃ T, x.l.length = T := ⟨_, rfl⟩
    rw [hT, hnb, hnl] at hA
    rw [hT] at x0
    rw [hnb] at x1
    rw [hnl] at x2
    have n0 : (0 : Int) < (m : Int) := by omega
    have n1 : ¬ (m : Int) = 0 := by omega
    have HIt := Lib.hid hit; have HM := Lib.hid hm; have HMu := Lib.hid hmu; have HF := Lib.hid hF; have HDay := Lib.hid hday; have HWx := Lib.hid hwx
    clear hit hm hmu hF hday hT hnb hnl ip hwx
    go_wp2_with fail
    refine hA.mono ?_; rintro e w2 ⟨rfl, hb2⟩
    have d2 : Duo w2 B 24 (.int .i64 0) (.slice none 0 0) := D1.out.stp hb2
    have HB2 := Lib.hid (HB1.out.trans (hb2.mono HB1.out.size))
    have HIt2 := Lib.hid (HIt.out.below hb2)
    have D2 := Lib.hid d2
    clear hA hb2 r0 r1 rl f0 f1 x0 x1 x2 hlt
    by_cases h0 : F = 0
    case neg =>
      have r0 := d2.cell0; have r1 := d2.cell1; have rl := d2.lt
      have f0 : w2.frozen? ⟨B, 0, none⟩ = false := d2.free 0
      have f1 : w2.frozen? ⟨B, 1, none⟩ = false := d2.free 1
      have hz : Z = .error F := by rw [← HZ.out]; exact Cm.get_bad HE.out HU.out HF.out h0
      have HZ2 := Lib.hid hz
      clear hz d2
      go_wp2_with fail
      refine bodyPost_ret (casc_none rfl rfl rfl (duo_casc2 D2.out _ _)) rfl ?_
      rw [HZ2.out]
      exact ⟨rfl, (HB2.out.setCell (by rw [HB.out]; exact Nat.le_refl _) _).setCell (by rw [HB.out]; exact Nat.le_refl _) _⟩
    subst h0
    have hz : Z = Cm.restS (fun _ => Cm.asO) day (.ok U') := by rw [← HZ.out, ← HDay.out]; exact Cm.get_day HE.out HU.out HF.out
    have HZ2 := Lib.hid hz
    clear hz d2
    obtain ⟨i0, gi, gz0, gz1, gz2⟩ := info_parts info_row10
    go_wp2_with fail
    go_loopw [8, 9] (fun lv i wr => ∃ (j : Nat) (bs : List (List Int)), i = .int .i64 j ∧ 1 ≤ j ∧ j ≤ m ∧ bs.length + 1 = j ∧ RwsO wr w2.heap.size lv bs ∧ (∀ y ∈ bs, y.length ≤ 10000 ∧ ∀ z ∈ y, byte z) ∧ Cm.RestI (fun _ => Cm.asO) day (.ok U') bs (.ok ((x :: U').drop j)) ∧ Below w2.heap.size w2 wr) (fun _ i _ => m - (intOf i).toNat)
    case atStart =>
      refine ⟨1, [], rfl, Nat.le_refl _, by have := HMu.out; omega, rfl, ⟨[], World.ownsRow_nil _ _ _ _, fun i hi => absurd hi (Nat.not_lt_zero _)⟩, (fun y hy => by cases hy), ?_, Below.refl _ _⟩
      exact Cm.RestI.start (fun l2 e => by cases e; have := HMu.out; omega)
    case round =>
      obtain ⟨j, bs, rfl, hj1, hj, hbl, hro, hby, hri, hb⟩ := hrel
      have k0 : (0 : Int) ≤ (j : Int) := by omega
      have e1 : IntKind.i64.wrap ((j : Int) + 1) = (j : Int) + 1 := IntWalk.i64_in _ (by omega)
      have d3 : Duo wr B 24 (.int .i64 0) (.slice none 0 0) := D2.out.stp hb
      have HB3 := Lib.hid (HB2.out.trans (hb.mono HB2.out.size))
      obtain ⟨xs, ho, hs⟩ := hro
      obtain ⟨lva, lvn, lvc, rfl⟩ := owns_slice ho
      have HRo := Lib.hid (show RwsO wr w2.heap.size (.slice lva lvn lvc) bs from ⟨xs, ho, hs⟩)
      by_cases hlt : j < m
      case neg =>
        obtain rfl : j = m := by omega
        have hz2 : Z = Cm.withR day bs := by
          rw [HZ2.out]
          have := hri
          rw [List.drop_eq_nil_of_le (by rw [HM.out]; exact Nat.le_refl _)] at this
          exact this.done
        have hrw := HRo.out.rws (fun y hy => (hby y hy).2)
        have hWi := with10_any day _ bs wr hrw (by omega) (fun y hy => (hby y hy).1)
        rw [← hz2] at hWi
        have HRI := Lib.hid hri
        clear hri hby hs ho hrw hz2
        go_wp2_with fail
        refine hWi.mono ?_; rintro e w4 ⟨hres, hb4⟩
        have d4 : Duo w4 B 24 (.int .i64 0) (.slice none 0 0) := d3.stp hb4
        have HB4 := Lib.hid (HB3.out.trans (hb4.mono HB3.out.size))
        have D4 := Lib.hid d4
        have r0 := d4.cell0; have r1 := d4.cell1; have rl := d4.lt
        have f0 : w4.frozen? ⟨B, 0, none⟩ = false := d4.free 0
        have f1 : w4.frozen? ⟨B, 1, none⟩ = false := d4.free 1
        clear hWi hb4 d4 d3 hb HZ HZ2
        cases Z with
        | error cc =>
          obtain rfl : e = _ := hres
          go_wp2_with fail
          refine bodyPost_ret (casc_none rfl rfl rfl (duo_casc2 D4.out _ _)) rfl ?_
          exact ⟨rfl, (HB4.out.setCell (by rw [HB.out]; exact Nat.le_refl _) _).setCell (by rw [HB.out]; exact Nat.le_refl _) _⟩
        | ok pz =>
          obtain ⟨day', ls⟩ := pz
          obtain ⟨av, cv, rfl, hsv⟩ := hres
          have HSv := Lib.hid hsv
          clear hsv
          go_wp2_with fail
          refine bodyPost_ret (casc_none rfl rfl rfl (duo_casc2 D4.out _ _)) rfl ?_
          exact ⟨⟨av, cv, rfl, svs_set2 HSv.out D4.out _ _⟩, (HB4.out.setCell (by rw [HB.out]; exact Nat.le_refl _) _).setCell (by rw [HB.out]; exact Nat.le_refl _) _⟩
      have k1 : (j : Int) < (m : Int) := by omega
      have hj2 : j < (x :: U').length := by rw [HM.out]; exact hlt
      obtain ⟨b', o', ab, cb, al, cl, e', hltb, y0, y1, y2, ip⟩ := (HIt2.out.below hb).at_ j hj2
      cases e'
      rw [drop_cons (d := Dm.no) hj2] at hri
      obtain ⟨z, hz⟩ : ∃ z, (x :: U')[j]?.getD Dm.no = z := ⟨_, rfl⟩
      have hwz : Dm.wt z ≤ 8192 := by
        rw [List.getElem?_eq_getElem hj2] at hz
        exact HFit.out.2 z (by rw [← hz]; exact List.getElem_mem _)
      rw [hz] at y0 y1 y2 ip hri
      have hO := rAsOct_val z _ _ wr ip (by omega)
      have hzl : z.b.length ≤ 10000 := by have := Dm.wt_eq z; omega
      have hnx := hri.next
      have hzb := ip.2.1.all_byte
      obtain ⟨T, hT⟩ : ∃ T, z.tag = T := ⟨_, rfl⟩
      obtain ⟨nb', hnb⟩ : ∃ T, z.b.length = T := ⟨_, rfl⟩
      obtain ⟨nl', hnl⟩ : ∃ T, z.l.length = T := ⟨_, rfl⟩
      obtain ⟨G, hG⟩ : ∃ G, asE z 4 = G := ⟨_, rfl⟩
      rw [hT, hnb, hnl, hG] at hO
      rw [hT] at y0
      rw [hnb] at y1
      rw [hnl] at y2
      have HNx := Lib.hid hnx; have HBy := Lib.hid hby; have HG := Lib.hid hG; have HZl := Lib.hid hzl; have HZb := Lib.hid hzb; have Hb := Lib.hid hb
      clear hri hnx hby hT hnb hnl hG hz ip hs ho hzl hwz hzb
      go_wp2_with fail
      refine hO.mono ?_; rintro e w4 ⟨⟨a4, c4, rfl, -, ho4⟩, hb4⟩
      have d4 : Duo w4 B 24 (.int .i64 0) (.slice none 0 0) := d3.stp hb4
      have HB4 := Lib.hid (HB3.out.trans (hb4.mono HB3.out.size))
      have D4 := Lib.hid d4
      have HO4 := Lib.hid ho4; have Hb4 := Lib.hid hb4
      clear hO d3 hb hb4 ho4 y0 y1 y2
      by_cases h0 : G = 0
      case neg =>
        have r0 := d4.cell0; have r1 := d4.cell1; have rl := d4.lt
        have f0 : w4.frozen? ⟨B, 0, none⟩ = false := d4.free 0
        have f1 : w4.frozen? ⟨B, 1, none⟩ = false := d4.free 1
        have hz3 : Z = .error G := by
          rw [HZ2.out]
          have h := HNx.out
          rw [Cm.nx_err (show Cm.asO z = .error G by unfold Cm.asO; rw [if_neg (by rw [HG.out]; exact h0), HG.out])] at h
          exact h
        have HZ3 := Lib.hid hz3
        clear hz3 d4
        go_wp2_with fail
        refine bodyPost_ret (casc_none rfl rfl rfl (duo_casc2 D4.out _ _)) rfl ?_
        rw [HZ3.out]
        exact ⟨rfl, (HB4.out.setCell (by rw [HB.out]; exact Nat.le_refl _) _).setCell (by rw [HB.out]; exact Nat.le_refl _) _⟩
      subst h0
      have hoc : octV z = z.b := by unfold octV; rw [if_pos HG.out]
      have ho4 := HO4.out
      rw [hoc] at ho4
      obtain ⟨xs', hx1, hx2⟩ := HRo.out.below Hb4.out
      have hri4 : Cm.RestI (fun _ => Cm.asO) day (.ok U') (bs ++ [z.b]) (.ok ((x :: U').drop (j + 1))) := by
        have h := HNx.out
        rw [Cm.nx_ok (show Cm.asO z = .ok z.b by unfold Cm.asO; rw [if_pos HG.out])] at h
        exact h
      obtain ⟨nz, hnz⟩ : ∃ n, (octV z).length = n := ⟨_, rfl⟩
      have hnz' : z.b.length = nz := by rw [← hnz, hoc]
      rw [hnz'] at ho4
      rw [hoc, hnz']
      have HO5 := Lib.hid ho4; have HRi4 := Lib.hid hri4; have HX1 := Lib.hid hx1; have HX2 := Lib.hid hx2
      clear ho4 hri4 d4 hoc hnz hnz' hx2
      go_wp2_with (first
        | (at_builtin
           refine wpList_append_own_at _ rfl (.tmp 54) (.tmp 56) 59 rfl w2.heap.size 25 i0 (.slice none 0 0) 1 24 Tryz.underlying59 gi gz0 gz1 gz2 rfl (by decide) (.slice lva lvn lvc) bs.length xs' rfl (hx1.alloc _) _ 1 1 [.slice a4 nz c4] rfl rfl (cell_one_new _ _ _) (by intro u hu; rw [List.mem_singleton.1 hu]; rfl) (by unfold maxLen; omega) (by omega) (by have := Hb.out.size; have := Hb4.out.size; simp; omega) ?_
           intro v' w5 own5 hgrow _ hat)
        | fail)
      have hsn := RwsO.snoc (l := z.b) (r := .slice a4 nz c4) (HX1.out.alloc (.cells #[.slice a4 nz c4] 25)) (fun i hi => (HX2.out i hi).alloc _) ((owns_low HO5.out Hb.out.size).alloc _) own5 hgrow
      go_roundw
      case rel =>
        refine ⟨j + 1, bs ++ [z.b], by go_num, by omega, by omega, by simp; omega, hsn, ?_, HRi4.out, ?_⟩
        · intro y hy
          rcases List.mem_append.1 hy with hy | hy
          · exact HBy.out y hy
          · rw [List.mem_singleton.1 hy]; exact ⟨HZl.out, HZb.out⟩
        · exact ((Hb.out.trans (Hb4.out.mono Hb.out.size)).alloc (Nat.le_trans Hb.out.size Hb4.out.size) _).grown hgrow (by have := Hb.out.size; have := Hb4.out.size; simp; omega) (fun k e => own_above HX1.out e)
      case measure => simp [intOf]; omega
end Go.Proofs.YtfdchdnkblmijaaGreatDoor
