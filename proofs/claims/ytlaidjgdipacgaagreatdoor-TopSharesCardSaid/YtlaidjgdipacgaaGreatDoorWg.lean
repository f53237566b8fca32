/-
  The texts Uk Ul Un Uo Up in one. (Merged by wip/lay12m.py.)
-/
import Derived.Test.YtlaidjgdipacgaaGreatDoorUj

section
namespace Go.Proofs.YtlaidjgdipacgaaGreatDoor
open Go.RowKit Go.Maps Go.Sort

theorem Shs.take {w : World} {a : Option Addr} {n cap : Nat} {l : List Shr} (h : Shs w (.slice a n cap) l) (m : Nat) (hm : m ≤ l.length) : Shs w (.slice a m cap) (l.take m) := by
  obtain ⟨a', c', e, h1, h2, h3, h4⟩ := h
  cases e
  have hlen : (l.take m).length = m := by simp; omega
  refine ⟨_, _, by rw [hlen], by omega, h2, h3, fun hne => ?_⟩
  have hne' : l ≠ [] := by rintro rfl; simp at hne
  obtain ⟨b, off, rfl, hb, hc⟩ := h4 hne'
  refine ⟨b, off, rfl, hb, fun i hi => ?_⟩
  have := hc i (by omega)
  rw [List.getElem?_take, if_pos (by omega)]
  exact this
theorem Shs.drop {w : World} {a : Option Addr} {n cap : Nat} {l : List Shr} (h : Shs w (.slice a n cap) l) (m : Nat) (hm : m ≤ l.length) : Shs w (.slice (if cap = m then a else Option.map (fun x => x.add (m * 2)) a) (n - m) (cap - m)) (l.drop m) := by
  obtain ⟨a', c', e, h1, h2, h3, h4⟩ := h
  cases e
  have hlen : (l.drop m).length = l.length - m := by simp
  by_cases q : cap = m
  · rw [if_pos q]
    have hd : l.drop m = [] := List.drop_eq_nil_of_le (by omega)
    rw [hd]
    exact ⟨_, _, by rw [show l.length - m = 0 by omega]; rfl, Nat.zero_le _, by omega, fun _ => by omega, fun h => absurd rfl h⟩
  · rw [if_neg q]
    refine ⟨_, _, by rw [hlen], by omega, by omega, fun h => ?_, fun hne => ?_⟩
    · have : a = none := by cases a with
        | none => rfl
        | some x => cases h
      have := h3 this; omega
    have hne' : l ≠ [] := by rintro rfl; simp at hne
    obtain ⟨b, off, rfl, hb, hc⟩ := h4 hne'
    refine ⟨b, off + m * 2, by simp [addr_add], hb, fun i hi => ?_⟩
    rw [hlen] at hi
    have := hc (m + i) (by omega)
    rw [List.getElem?_drop, Nat.add_assoc, ← Nat.add_mul]
    exact this
namespace Gm
/-- What Check multiplies. -/
def prodS (ids : List Int) (x : Int) (l : List Shr) : Int := l.foldl (fun o p => mul Q o (pow Q p.2 (weight ids x p.1).toNat)) 1
theorem prodS_snoc (ids : List Int) (x : Int) (l : List Shr) (p : Shr) : prodS ids x (l ++ [p]) = mul Q (prodS ids x l) (pow Q p.2 (weight ids x p.1).toNat) := by
  unfold prodS; rw [List.foldl_append]; rfl
theorem prodS_pub (ids : List Int) (x : Int) : ∀ k (l : List Shr), l.length = k → (∀ p ∈ l, 0 ≤ p.2) → prodS ids x (l.map pubS) = base (joinS ids x l)
  | 0, l, hl, _ => by
    obtain rfl := List.length_eq_zero_iff.1 hl
    show (1 : Int) = base 0
    decide
  | k + 1, l, hl, h => by
    have hne : l ≠ [] := by rintro rfl; simp at hl
    obtain ⟨l', p, rfl⟩ : ∃ l' p, l = l' ++ [p] := ⟨_, _, (List.dropLast_concat_getLast hne).symm⟩
    have ih := prodS_pub ids x k l' (by simp at hl; omega) (fun q hq => h q (List.mem_append_left _ hq))
    have hp := h p (by simp)
    have hj := joinS_rng ids x l'
    have hw := weight_rng ids x p.1
    rw [List.map_append, List.map_singleton, prodS_snoc, ih, joinS_snoc]
    show mul Q _ (pow Q (base p.2) (weight ids x p.1).toNat) = _
    have hpw := Int.mul_nonneg hp hw.1
    rw [base_pow _ _ hp hw.1, base_add _ _ hj.1 hpw, ← base_mod _ (by omega)]
    congr 1
    unfold add mul
    rw [Int.add_emod_emod]
theorem prodS_rng (ids : List Int) (x : Int) (l : List Shr) : 0 ≤ prodS ids x l ∧ prodS ids x l < Q := by
  rcases List.eq_nil_or_concat l with rfl | ⟨l', p, rfl⟩
  · exact ⟨(by decide : (0 : Int) ≤ 1), (by decide : (1 : Int) < Q)⟩
  · rw [List.concat_eq_append, prodS_snoc]; exact rng Q_pos _
theorem pow_rng (a : Int) (n : Nat) : 0 ≤ pow Q a n ∧ pow Q a n < Q := rng Q_pos _
end Gm

set_option maxRecDepth 100000 in
set_option maxHeartbeats 2000000 in
theorem Check_yes (t : Nat) (v : Value) (l : List Shr) (w : World) (h : Shs w v (l.map pubS)) (hf : Fit l) (t0 : 1 ≤ t) (tl : t ≤ l.length) (ht : FitI (l.take t)) (hj : ∀ p ∈ l.drop t, Gm.joinS ((l.take t).map (·.1)) p.1 (l.take t) = p.2) :
    Calls Tryz.prog 10 #[.int .i64 t, v] w fun e w' => e = .returned (.int .i64 0) ∧ Below w.heap.size w w' := by
  obtain ⟨n, hn⟩ : ∃ n, l.length = n := ⟨_, rfl⟩
  obtain ⟨a, c, rfl⟩ := h.shapeN ((List.length_map ..).trans hn)
  have n7 : n ≤ 7 := by have := hf.2.1; omega
  have tn : t ≤ n := by omega
  have nc : n ≤ c ∧ c ≤ maxLen := by
    obtain ⟨_, _, e, h1, h2, -⟩ := h
    cases e
    rw [List.length_map, hn] at h1
    exact ⟨h1, h2⟩
  have hid : (l.map pubS).map (·.1) = l.map (·.1) := by rw [List.map_map]; rfl
  have M := mapI_any _ _ w h (by rw [List.length_map]; omega) (fun p hp => by
    obtain ⟨q, hq, rfl⟩ := List.mem_map.1 hp
    have := hf.2.2.1 q hq
    show 0 ≤ q.1 ∧ q.1 ≤ 1000000
    omega)
  rw [hid] at M
  have Y := fun W r (hr : Row .i64 W r (l.map (·.1))) => right_yes r _ W hr (by rw [List.length_map]; exact hf.1) (by rw [List.length_map]; exact hf.2.1) (fun k hk => by obtain ⟨p, hp, rfl⟩ := List.mem_map.1 hk; exact (hf.2.2.1 p hp).1) hf.2.2.2
  have a1 : ¬ (t : Int) < 1 := by omega
  have a2 : ¬ (7 : Int) < (t : Int) := by omega
  have a3 : (0 : Int) < (n : Int) := by omega
  have a4 : ¬ (n : Int) < (t : Int) := by omega
  have HH := Lib.hid h; have HN := Lib.hid hn; have HF := Lib.hid hf; have HT := Lib.hid ht; have HJ := Lib.hid hj; have HY := Lib.hid Y; have NC := Lib.hid nc
  clear h hf ht hj Y hid tl
  go_enter Tryz.func10, Tryz.ntmps10
  go_wp2_with fail
  refine M.mono ?_; rintro e w1 ⟨⟨r, rfl, hr⟩, hb1⟩
  obtain ⟨ra, rc, rfl⟩ := hr.shape n (by rw [List.length_map]; exact HN.out)
  have Y1 := HY.out _ _ hr
  clear hr
  go_wp2_with fail
  refine Y1.mono ?_; rintro e w2 ⟨rfl, hb2⟩
  have hb2' := hb1.trans (hb2.mono hb1.size)
  clear Y1 hb1 hb2 M
  go_wp2_with fail
  go_loopw [34] (fun i wr => ∃ k : Nat, i = .int .i64 k ∧ k ≤ n ∧ Below w.heap.size w wr) (fun i _ => n - (intOf i).toNat)
  case atStart => exact ⟨0, rfl, Nat.zero_le _, hb2'⟩
  case round =>
    obtain ⟨k, rfl, hk, hb⟩ := hrel
    clear hb2'
    have k0 : (0 : Int) ≤ (k : Int) := by omega
    have e1 : IntKind.i64.wrap ((k : Int) + 1) = (k : Int) + 1 := IntWalk.i64_in _ (by omega)
    by_cases hlt : k < n
    · have k1 : (k : Int) < (n : Int) := by omega
      have hkl : k < l.length := by rw [HN.out]; exact hlt
      have hs := HH.out.below hb
      obtain ⟨b, o, rfl, hbl, y0, y1⟩ := hs.at k (by rw [List.length_map]; exact hkl)
      have hat : (l.map pubS)[k]?.getD shNo = pubS l[k] := by rw [List.getElem?_map, List.getElem?_eq_getElem hkl]; rfl
      rw [hat] at y0 y1
      have S1 := fun W => In_yes (Gm.base l[k].2) W (Gm.base_in _)
      obtain ⟨pi, hpi⟩ : ∃ x, (pubS l[k]).1 = x := ⟨_, rfl⟩
      obtain ⟨px, hpx⟩ : ∃ x, (pubS l[k]).2 = x := ⟨_, rfl⟩
      have hpx' : Gm.base l[k].2 = px := hpx
      rw [hpi] at y0; rw [hpx] at y1; rw [hpx'] at S1
      have q := Duo.new wr 65 (.int .i64 pi) (.int .u64 px)
      have c1 := q.cell1
      have hb3 : Below w.heap.size w (wr.alloc (.cells #[.int .i64 pi, .int .u64 px] 65)) := hb.alloc hb.size _
      have HB := Lib.hid hb3
      clear hb hs q hpi hpx hpx' hat hb3
      go_wp2_with fail
      refine (S1 _).mono ?_; rintro e w3 ⟨rfl, hb4⟩
      have HB4 := Lib.hid (HB.out.trans (hb4.mono HB.out.size))
      clear S1 hb4
      go_wp2_with fail
      go_roundw
      case rel => exact ⟨k + 1, by go_num, by omega, HB4.out⟩
      case measure => simp [intOf]; omega
    · obtain rfl : k = n := by omega
      clear hlt
      have HB := Lib.hid hb
      clear hb
      go_wp2_with fail
      obtain ⟨nc1, nc2⟩ := NC.out
      have b1 : (t : Int) ≤ (c : Int) := by omega
      have b2 : (k : Int) ≤ (c : Int) := by omega
      have b3 : (t : Int) ≤ (k : Int) := by omega
      have b4 : (0 : Int) ≤ (t : Int) := by omega
      go_quiet (fail)
      have hV : Below w.heap.size w (wr.drewN nq) := ⟨HB.out.os, HB.out.tape, HB.out.output, HB.out.size, HB.out.block⟩
      have hh := HH.out
      have hs1 := hh.take t (by rw [List.length_map, HN.out]; omega)
      have hs2 := hh.drop t (by rw [List.length_map, HN.out]; omega)
      rw [← List.map_take] at hs1
      rw [← List.map_drop] at hs2
      obtain ⟨d2, ha2⟩ : ∃ x, (if c = t then a else Option.map (fun x => x.add (t * 2)) a) = x := ⟨_, rfl⟩
      obtain ⟨m, hm⟩ : ∃ m, k - t = m := ⟨_, rfl⟩
      obtain ⟨c2, hc2⟩ : ∃ m, c - t = m := ⟨_, rfl⟩
      obtain ⟨V, hVn⟩ : ∃ V, wr.drewN nq = V := ⟨_, rfl⟩
      rw [ha2, hm, hc2] at hs2 ⊢
      rw [hVn] at hV ⊢
      obtain ⟨l1, hl1⟩ : ∃ x, l.take t = x := ⟨_, rfl⟩
      obtain ⟨l2, hl2⟩ : ∃ x, l.drop t = x := ⟨_, rfl⟩
      have ht := HT.out; have hj := HJ.out
      rw [hl1] at hs1 ht hj
      rw [hl2] at hs2 hj
      have len1 : l1.length = t := by rw [← hl1, List.length_take, HN.out]; omega
      have len2 : l2.length = m := by rw [← hl2, List.length_drop, HN.out]; omega
      have hmem2 : ∀ p ∈ l2, p ∈ l := fun p hp => by rw [← hl2] at hp; exact List.mem_of_mem_drop hp
      have f2 : ∀ p ∈ l2, (1 ≤ p.1 ∧ p.1 ≤ 7) ∧ 0 ≤ p.2 ∧ p.2 < Gm.R := fun p hp => HF.out.2.2.1 p (hmem2 p hp)
      have hid1 : (l1.map pubS).map (·.1) = l1.map (·.1) := by rw [List.map_map]; rfl
      have M1 := fun W (hW : Below w.heap.size w W) => mapI_any _ _ W (hs1.below hW) (by rw [List.length_map]; omega) (fun p hp => by
        obtain ⟨q, hq, rfl⟩ := List.mem_map.1 hp
        have := ht.1.2.2.1 q hq
        show 0 ≤ q.1 ∧ q.1 ≤ 1000000
        omega)
      rw [hid1] at M1
      have t7 : t ≤ 7 := by omega
      have m7 : m ≤ 7 := by omega
      have HS1 := Lib.hid hs1; have HS2 := Lib.hid hs2; have HT1 := Lib.hid ht; have HJ1 := Lib.hid hj; have HL1 := Lib.hid len1; have HL2 := Lib.hid len2; have HF2 := Lib.hid f2; have HM1 := Lib.hid M1
      clear HH HT HJ HF HY NC hh hs1 hs2 ht hj hl1 hl2 ha2 hm hc2 hVn hmem2 f2 hid1 M1 len1 len2 b1 b2 b3 b4 nc1 nc2 HB k0 e1 hk a1 a2 a3 a4
      go_wp2_with fail
      rw [show decide (k < t) = false from decide_eq_false (by omega)]
      go_loopw [55] (fun i wr => ∃ j : Nat, i = .int .i64 j ∧ j ≤ m ∧ Below w.heap.size w wr) (fun i _ => m - (intOf i).toNat)
      case atStart => exact ⟨0, rfl, Nat.zero_le _, hV⟩
      case round =>
        obtain ⟨j, rfl, hj, hb⟩ := hrel
        clear hV
        have j0 : (0 : Int) ≤ (j : Int) := by omega
        have e1 : IntKind.i64.wrap ((j : Int) + 1) = (j : Int) + 1 := IntWalk.i64_in _ (by omega)
        by_cases hlt : j < m
        · have j1 : (j : Int) < (m : Int) := by omega
          have hjl : j < l2.length := by rw [HL2.out]; exact hlt
          have hs := HS2.out.below hb
          obtain ⟨b, o, hae, hbl, y0, y1⟩ := hs.at j (by rw [List.length_map]; exact hjl)
          subst hae
          have hat : (l2.map pubS)[j]?.getD shNo = pubS l2[j] := by rw [List.getElem?_map, List.getElem?_eq_getElem hjl]; rfl
          rw [hat] at y0 y1
          have hjoin := HJ1.out l2[j] (List.getElem_mem _)
          have hpf := HF2.out l2[j] (List.getElem_mem _)
          obtain ⟨pp, hpp⟩ : ∃ x, l2[j] = x := ⟨_, rfl⟩
          rw [hpp] at y0 y1 hjoin hpf
          obtain ⟨pi, px⟩ := pp
          dsimp only [pubS] at y0 y1 hjoin hpf
          have e2 : IntKind.u64.wrap pi = pi := by rw [IntKind.wrap_u64]; omega
          obtain ⟨g, hg⟩ : ∃ g, Gm.base px = g := ⟨_, rfl⟩
          rw [hg] at y1
          have q := Duo.new wr 65 (.int .i64 pi) (.int .u64 g)
          obtain ⟨W, hW⟩ : ∃ W, wr.alloc (.cells #[.int .i64 pi, .int .u64 g] 65) = W := ⟨_, rfl⟩
          have hbW : Below w.heap.size w W := by rw [← hW]; exact hb.alloc hb.size _
          rw [hW] at q
          obtain ⟨C, hC⟩ : ∃ C, wr.heap.size = C := ⟨_, rfl⟩
          rw [hC] at q
          have x0 := q.cell0; have x1 := q.cell1; have lC := q.lt
          have QQ := Lib.hid q; have HW := Lib.hid hW; have HC := Lib.hid hC; have HbW := Lib.hid hbW; have HG := Lib.hid hg; have HJo := Lib.hid hjoin; have HPF := Lib.hid hpf
          clear q hW hC hbW hg hjoin hpf hpp hat hs hb
          go_wp2_with fail
          rw [HW.out, HC.out]
          (try go_wp2_with fail)
          go_region_held3 (fun w' => w'.cell? ⟨C, 0, none⟩ = some (.int .i64 pi) ∧ w'.cell? ⟨C, 1, none⟩ = some (.int .u64 g)) (first | go_keep | (refine ⟨?_, ?_⟩ <;> assumption)) (first
            | (go_at_call 21; refine (HM1.out _ (HbW.out.drew)).mono ?_; rintro e w4 ⟨⟨r4, rfl, hr4⟩, hb4⟩; obtain ⟨ra4, rc4, rfl⟩ := hr4.shape t (by rw [List.length_map]; exact HL1.out); have H4 := Lib.hid ((Below.refl _ W).drew.trans hb4); have R4 := Lib.hid hr4; have d4 := QQ.out.stp H4.out; have z0 := d4.cell0; have z1 := d4.cell1)
            | (go_at_call 20; refine (weights_any _ _ _ _ _).mono ?_; rintro e w5 ⟨rfl, hw5⟩; have d5 := d4.stp (show Below w4.heap.size w4 w5 from by rw [hw5]; exact ((Below.refl _ w4).alloc (Nat.le_refl _) _).alloc (by simp) _); have u0 := d5.cell0; have u1 := d5.cell1)
            | fail)
          have hw4 : Below w.heap.size w w4 := HbW.out.trans (H4.out.mono HbW.out.size)
          obtain ⟨B, hB⟩ : ∃ B, w4.heap.size = B := ⟨_, rfl⟩
          have hbx : Boxed ((w4.alloc (.cells #[.slice ra4 t rc4] 23)).alloc (.cells #[.int .u64 pi] 25)) B 23 (.slice ra4 t rc4) := by rw [← hB]; exact (Boxed.new w4 _ _).alloc _
          have hby : Boxed ((w4.alloc (.cells #[.slice ra4 t rc4] 23)).alloc (.cells #[.int .u64 pi] 25)) (B + 1) 25 (.int .u64 pi) := by
            have := Boxed.new (w4.alloc (.cells #[.slice ra4 t rc4] 23)) 25 (.int .u64 pi)
            rw [World.size_alloc, hB] at this
            exact this
          have hb45 : Below w4.heap.size w4 ((w4.alloc (.cells #[.slice ra4 t rc4] 23)).alloc (.cells #[.int .u64 pi] 25)) := ((Below.refl w4.heap.size w4).alloc (Nat.le_refl _) _).alloc (by simp) _
          have r5 := R4.out.below hb45
          have d5' := d4.stp hb45
          have b5 := bel_stp hw4 hb45
          rw [hB]
          obtain ⟨w5, hw5⟩ : ∃ x, (w4.alloc (.cells #[.slice ra4 t rc4] 23)).alloc (.cells #[.int .u64 pi] 25) = x := ⟨_, rfl⟩
          rw [hw5] at hbx hby r5 d5' b5 ⊢
          obtain ⟨ids, hids⟩ : ∃ x, l1.map (·.1) = x := ⟨_, rfl⟩
          have hir := HT1.out.1.ids
          have hiv := HT1.out.inv
          have hjo := HJo.out
          rw [hids] at r5 hir hiv hjo
          have idl : ids.length = t := by rw [← hids, List.length_map, HL1.out]
          have BX := Lib.hid hbx; have BY := Lib.hid hby; have R5 := Lib.hid r5; have D5 := Lib.hid d5'; have B5 := Lib.hid b5; have IDS := Lib.hid hids; have IR := Lib.hid hir; have IV := Lib.hid hiv; have JO := Lib.hid hjo; have IL := Lib.hid idl
          have pf := HPF.out
          clear hbx hby r5 d5' b5 hids hir hiv hjo idl hw5 hb45 hB hw4 QQ HW HC HbW HJo HPF H4 R4 HM1 HJ1 HF2 HS2
          go_wp2_with fail
          go_loopw [12, 67] (fun rv i wr => ∃ q : Nat, i = .int .i64 q ∧ q ≤ t ∧ rv = .int .u64 (Gm.prodS ids pi ((l1.take q).map pubS)) ∧ Below w5.heap.size w5 wr) (fun _ i _ => t - (intOf i).toNat)
          case atStart => exact ⟨0, rfl, Nat.zero_le _, rfl, Below.refl _ _⟩
          case round =>
            obtain ⟨q, rfl, hq, rfl, hb⟩ := hrel
            have q0 : (0 : Int) ≤ (q : Int) := by omega
            have e3 : IntKind.i64.wrap ((q : Int) + 1) = (q : Int) + 1 := IntWalk.i64_in _ (by omega)
            by_cases hql : q < t
            · have q1 : (q : Int) < (t : Int) := by omega
              have hql1 : q < l1.length := by rw [HL1.out]; exact hql
              have hs := HS1.out.below (B5.out.trans (hb.mono B5.out.size))
              obtain ⟨b1, o1, hae, hbl1, z0', z1'⟩ := hs.at q (by rw [List.length_map]; exact hql1)
              subst hae
              have hat : (l1.map pubS)[q]?.getD shNo = pubS l1[q] := by rw [List.getElem?_map, List.getElem?_eq_getElem hql1]; rfl
              rw [hat] at z0' z1'
              have htk : (l1.take (q + 1)).map pubS = (l1.take q).map pubS ++ [pubS l1[q]] := by
                rw [List.take_add_one, List.getElem?_eq_getElem hql1, List.map_append]; rfl
              have hpf := HT1.out.1.2.2.1 l1[q] (List.getElem_mem _)
              have hin : l1[q].1 ∈ ids := by rw [← IDS.out]; exact List.mem_map_of_mem (List.getElem_mem _)
              obtain ⟨pp, hpp⟩ : ∃ x, l1[q] = x := ⟨_, rfl⟩
              rw [hpp] at z0' z1' hpf hin htk
              obtain ⟨yi, yx⟩ := pp
              dsimp only [pubS] at z0' z1' hpf hin htk
              have hps := Gm.prodS_snoc ids pi ((l1.take q).map pubS) (yi, Gm.base yx)
              have htk' : Gm.prodS ids pi ((l1.take (q + 1)).map pubS) = Gm.prodS ids pi ((l1.take q).map pubS ++ [(yi, Gm.base yx)]) := by rw [htk]
              rw [← htk'] at hps
              dsimp only at hps
              have gr := Gm.base_rng yx
              have hQ : Gm.Q = 2305843009213691579 := rfl
              have hR : Gm.R = 1152921504606845789 := rfl
              obtain ⟨gy, hgy⟩ : ∃ g, Gm.base yx = g := ⟨_, rfl⟩
              rw [hgy] at z1' hps gr
              have wrg := Gm.weight_rng ids pi yi
              have prg := Gm.prodS_rng ids pi ((l1.take q).map pubS)
              have dz := Duo.new wr 65 (.int .i64 yi) (.int .u64 gy)
              obtain ⟨X, hX⟩ : ∃ X, wr.alloc (.cells #[.int .i64 yi, .int .u64 gy] 65) = X := ⟨_, rfl⟩
              have hbX : Below w5.heap.size w5 X := by rw [← hX]; exact hb.alloc hb.size _
              rw [hX] at dz
              obtain ⟨E, hE⟩ : ∃ E, wr.heap.size = E := ⟨_, rfl⟩
              rw [hE] at dz
              have S1 := fun W' (h' : Below w5.heap.size w5 W') => wgt_any ids pi yi B _ W' (boxed_below BX.out h') (boxed_below BY.out h') (R5.out.below h') (by rw [IL.out]; exact t7) IR.out hpf.1 (by omega) (IV.out yi hin)
              obtain ⟨wt, hwt⟩ : ∃ x, Gm.weight ids pi yi = x := ⟨_, rfl⟩
              rw [hwt] at S1 hps wrg
              have S2 := fun W' => Pow_any gy wt W' (by omega) (by omega) (by omega) (by omega)
              have pwr := Gm.pow_rng gy wt.toNat
              obtain ⟨pw, hpw⟩ : ∃ x, Gm.pow Gm.Q gy wt.toNat = x := ⟨_, rfl⟩
              rw [hpw] at S2 hps pwr
              obtain ⟨rv, hrv⟩ : ∃ x, Gm.prodS ids pi ((l1.take q).map pubS) = x := ⟨_, rfl⟩
              rw [hrv] at hps prg ⊢
              have S3 := fun W' => GMul_any rv pw W' (by omega) (by omega) (by omega) (by omega)
              rw [← hps] at S3
              have x0 := dz.cell0; have x1 := dz.cell1; have lE := dz.lt
              have r0 := cell_regrown x0; have r1 := cell_regrown x1
              have p1 : ∀ dd os, Calls Tryz.prog 52 #[.int .i64 yi, .pointer (some ⟨B, 0, none⟩), .pointer (some ⟨B + 1, 0, none⟩)] (grow (redrawn X dd) os) fun e w'' => e = .returned (.int .u64 wt) ∧ ∃ p : Regrown, w'' = grow (redrawn X p.d) p.os := fun dd os => Calls.regrown_of (S1 _ (bel_stp hbX (below_regrown X dd os)))
              have p2 : ∀ dd os, Calls Tryz.prog 32 #[.int .u64 gy, .int .u64 wt] (grow (redrawn X dd) os) fun e w'' => e = .returned (.int .u64 pw) ∧ ∃ p : Regrown, w'' = grow (redrawn X p.d) p.os := fun dd os => Calls.regrown_of (S2 _)
              have p3 : ∀ dd os, Calls Tryz.prog 33 #[.int .u64 rv, .int .u64 pw] (grow (redrawn X dd) os) fun e w'' => e = .returned (.int .u64 (Gm.prodS ids pi ((l1.take (q + 1)).map pubS))) ∧ ∃ p : Regrown, w'' = grow (redrawn X p.d) p.os := fun dd os => Calls.regrown_of (S3 _)
              have HX := Lib.hid hX; have HE := Lib.hid hE; have HbX := Lib.hid hbX
              clear S1 S2 S3 dz hX hE hbX hps hrv hpw hwt hgy htk htk' hat hs hb hin hpf hpp gr wrg pwr prg pf
              go_wp2_with fail
              rw [HX.out, HE.out]
              (try go_wp2_with fail)
              refine wp_region_quiet_below (by kernel_rfl) (by kernel_rfl) ?_
              repeat (go_big_quiet_step (first | with_reducible exact p1 _ _ | with_reducible exact p2 _ _ | with_reducible exact p3 _ _ | fail))
              refine wpQuiet_nil ?_
              intro _ hw'
              obtain ⟨⟨dq, osq⟩, hw''⟩ := hw'
              subst hw''
              go_wp2_with fail
              go_roundw
              case rel => exact ⟨q + 1, by go_num, by omega, rfl, bel_stp HbX.out (below_regrown X dq osq)⟩
              case measure => simp [intOf]; omega
            · obtain rfl : q = t := by omega
              have hfull : l1.take q = l1 := List.take_of_length_le (by rw [HL1.out]; exact Nat.le_refl _)
              rw [hfull]
              rw [Gm.prodS_pub ids pi _ l1 rfl (fun p hp => by have := HT1.out.1.2.2.1 p hp; omega), JO.out, HG.out]
              have d6 := D5.out.stp hb
              have y1' := d6.cell1
              have HB := Lib.hid (B5.out.trans (hb.mono B5.out.size))
              clear hb d6
              go_wp2_with fail
              go_roundw
              case rel => exact ⟨j + 1, by go_num, by omega, HB.out⟩
              case measure => simp [intOf]; omega
        · obtain rfl : j = m := by omega
          have HB := Lib.hid hb
          clear hb
          go_wp2_with fail
          go_ret
          exact ⟨rfl, HB.out⟩
end Go.Proofs.YtlaidjgdipacgaaGreatDoor
end

section
namespace Go.Proofs.YtlaidjgdipacgaaGreatDoor
open Go.RowKit Go.Maps Go.Sort

namespace Gm
theorem ev_rng (l : List Int) (x : Int) : 0 ≤ ev l x ∧ ev l x < R := by rw [ev_big]; exact rng R_pos _
def idsTo (n : Nat) : List Int := (List.range n).map fun j : Nat => (j : Int) + 1
theorem idsTo_take : ∀ n, n ≤ 7 → idsTo n = crewIds.take n
  | 0, _ => rfl
  | 1, _ => rfl
  | 2, _ => rfl
  | 3, _ => rfl
  | 4, _ => rfl
  | 5, _ => rfl
  | 6, _ => rfl
  | 7, _ => rfl
  | n + 8, h => absurd h (by omega)
theorem split_eq (s : Int) (seed : List Int) (t n : Nat) : split s seed t n = (idsTo n).map fun i => (i, ev (poly s seed t) i) := by
  unfold split shTo idsTo
  rw [List.map_map]
  apply List.map_congr_left
  intro j hj
  rw [if_pos (List.mem_range.1 hj)]; rfl
theorem split_len (s : Int) (seed : List Int) (t n : Nat) : (split s seed t n).length = n := by rw [split_eq]; simp [idsTo]
theorem poly_len (s : Int) (seed : List Int) (t : Nat) : (poly s seed t).length = t := by simp [poly]
theorem poly_zero (s : Int) (seed : List Int) (t : Nat) (ht : 1 ≤ t) (h0 : 0 ≤ s) (h1 : s < R) : ev (poly s seed t) 0 = s := by
  obtain ⟨k, rfl⟩ : ∃ k, t = k + 1 := ⟨t - 1, by omega⟩
  have : poly s seed (k + 1) = s :: ((List.range k).map Nat.succ).map (coef s seed) := by
    unfold poly
    rw [List.range_succ_eq_map]; rfl
  rw [this, ev_zero _ _ h0 h1]
theorem nodup_crew : crewIds.Nodup := by decide
/-- A part of a crew. -/
theorem part_ids {s : Int} {seed : List Int} {t n : Nat} {l : List Shr} (hn : n ≤ 7) (hs : l.Sublist (split s seed t n)) : (l.map (·.1)).Sublist crewIds := by
  have h1 := hs.map (·.1)
  have h2 : (split s seed t n).map (·.1) = idsTo n := by rw [split_eq, List.map_map]; simp [Function.comp_def]
  rw [h2, idsTo_take n hn] at h1
  exact h1.trans (List.take_sublist _ _)
theorem part_at {s : Int} {seed : List Int} {t n : Nat} {l : List Shr} (hs : l.Sublist (split s seed t n)) : l = (l.map (·.1)).map fun i => (i, ev (poly s seed t) i) := by
  have : ∀ p ∈ l, p = (p.1, ev (poly s seed t) p.1) := fun p hp => by
    have := hs.subset hp
    rw [split_eq] at this
    obtain ⟨i, -, rfl⟩ := List.mem_map.1 this
    rfl
  rw [List.map_map]
  conv => lhs; rw [← List.map_id l]
  exact List.map_congr_left fun p hp => this p hp
theorem joinS_part {s : Int} {seed : List Int} {t n : Nat} {l : List Shr} (hs : l.Sublist (split s seed t n)) {x : Int} (hf : fine (l.map (·.1)) x = true) (hl : t ≤ l.length) : joinS (l.map (·.1)) x l = ev (poly s seed t) x := by
  have h1 := joinS_is x (ev (poly s seed t)) (l.map (·.1)) (l.map (·.1))
  rw [← part_at hs] at h1
  rw [h1]
  exact join_ev hf (by rw [poly_len, List.length_map]; exact hl)
end Gm
theorem fit_part {s : Int} {seed : List Int} {t n : Nat} {l : List Shr} (hn : n ≤ 7) (hs : l.Sublist (Gm.split s seed t n)) (hne : l ≠ []) : FitI l ∧ Gm.fine (l.map (·.1)) 0 = true := by
  have hi := Gm.part_ids hn hs
  have hall := List.all_eq_true.1 Gm.fine_all _ (Gm.subs_of hi)
  have hemp : (l.map (·.1)).isEmpty = false := by
    cases l with
    | nil => exact absurd rfl hne
    | cons _ _ => rfl
  rw [hemp, Bool.false_or, Bool.and_eq_true] at hall
  refine ⟨⟨⟨List.length_pos_iff.2 hne, ?_, fun p hp => ?_, hi.nodup Gm.nodup_crew⟩, hall.2⟩, hall.1⟩
  · have := hi.length_le
    rw [List.length_map] at this
    exact this
  · have h1 : p.1 ∈ Gm.crewIds := hi.subset (List.mem_map_of_mem hp)
    have h2 : p.2 = Gm.ev (Gm.poly s seed t) p.1 := by
      have := hs.subset hp
      rw [Gm.split_eq] at this
      obtain ⟨i, -, rfl⟩ := List.mem_map.1 this
      rfl
    refine ⟨?_, by rw [h2]; exact Gm.ev_rng _ _⟩
    have : ∀ i ∈ Gm.crewIds, 1 ≤ i ∧ i ≤ 7 := by decide
    exact this _ h1
theorem join_part {s : Int} {seed : List Int} {t n : Nat} {l : List Shr} (hn : n ≤ 7) (hs : l.Sublist (Gm.split s seed t n)) (ht : 1 ≤ t) (hl : t ≤ l.length) (s0 : 0 ≤ s) (s1 : s < Gm.R) : Gm.joinS (l.map (·.1)) 0 l = s := by
  have hne : l ≠ [] := by rintro rfl; simp at hl; omega
  rw [Gm.joinS_part hs (fit_part hn hs hne).2 hl, Gm.poly_zero _ _ _ ht s0 s1]
theorem more_part {s : Int} {seed : List Int} {t n : Nat} (hn : n ≤ 7) (ht : 1 ≤ t) (tn : t ≤ n) : ∀ p ∈ (Gm.split s seed t n).drop t, Gm.joinS (((Gm.split s seed t n).take t).map (·.1)) p.1 ((Gm.split s seed t n).take t) = p.2 := fun p hp => by
  have hids : ((Gm.split s seed t n).take t).map (·.1) = Gm.crewIds.take t := by
    rw [List.map_take, Gm.split_eq, List.map_map]
    have : List.map ((fun x : Shr => x.1) ∘ fun i => (i, Gm.ev (Gm.poly s seed t) i)) (Gm.idsTo n) = Gm.idsTo n := by simp [Function.comp_def]
    rw [this, Gm.idsTo_take n hn, List.take_take, Nat.min_eq_left tn]
  obtain ⟨j, hj, rfl⟩ := List.mem_iff_getElem.1 hp
  have hjl : j + t < n := by rw [List.length_drop, Gm.split_len] at hj; omega
  have hpj : ((Gm.split s seed t n).drop t)[j] = (((t + j : Nat) : Int) + 1, Gm.ev (Gm.poly s seed t) (((t + j : Nat) : Int) + 1)) := by
    rw [List.getElem_drop]
    simp [Gm.split_eq, Gm.idsTo]
  rw [hpj]
  have hf : Gm.fine (((Gm.split s seed t n).take t).map (·.1)) (((t + j : Nat) : Int) + 1) = true := by
    rw [hids]
    have h1 := List.all_eq_true.1 Gm.fine_more (t - 1) (List.mem_range.2 (by omega))
    have h2 := List.all_eq_true.1 h1 (t + j) (List.mem_range.2 (by omega))
    rw [show t - 1 + 1 = t by omega, decide_eq_false (by omega), Bool.false_or] at h2
    exact h2
  exact Gm.joinS_part (List.take_sublist _ _) hf (by rw [List.length_take, Gm.split_len]; omega)

set_option maxRecDepth 100000 in
set_option maxHeartbeats 2000000 in
theorem Split_arg (s t n : Int) (a : Option Addr) (m c : Nat) (w : World) (h : t < 1 ∨ n < t ∨ 7 < n) :
    Calls Tryz.prog 50 #[.int .u64 s, .int .i64 t, .int .i64 n, .slice a m c] w fun e w' => e = .returned (.tuple #[.slice none 0 0, .int .i64 1]) ∧ w' = w := by
  by_cases h1 : t < 1
  · go_enter Tryz.func50, Tryz.ntmps50
    go_wp2_with fail
    go_ret2
    exact ⟨rfl, rfl⟩
  by_cases h2 : n < t
  · go_enter Tryz.func50, Tryz.ntmps50
    go_wp2_with fail
    go_ret2
    exact ⟨rfl, rfl⟩
  have h3 : 7 < n := by omega
  go_enter Tryz.func50, Tryz.ntmps50
  go_wp2_with fail
  go_ret2
  exact ⟨rfl, rfl⟩
end Go.Proofs.YtlaidjgdipacgaaGreatDoor
end

section
namespace Go.Proofs.YtlaidjgdipacgaaGreatDoor
open Go.RowKit Go.Maps Go.Sort

theorem blk_ret2 {tmps : Array Value} {W : World} {g : Nat} {fn : Func} {p q r : Tmp} (hr : fn.results = #[.cell p 28, .tmp q, .tmp r]) (hp : tmps.getD p undef = .pointer (some ⟨g, 0, none⟩)) {x y z u : Value} (hd : Blk W g 28 [x, y, z, u]) :
    (results fn tmps).run Tryz.prog W = .ok (.tuple #[.agg #[x, y, z, u], tmps.getD q undef, tmps.getD r undef]) W := by
  have hp' : tmps[p]?.getD undef = .pointer (some ⟨g, 0, none⟩) := by simpa using hp
  simp [results, hr, hp', asAddr, run_loadVar_row W g 28 28 #[x, y, z, u] (0, 0) _ hd Tryz.underlying28 rfl (by kernel_rfl)]
theorem Blk.new (w : World) (t : TypeId) (l : List Value) : Blk (w.alloc (.cells l.toArray t)) w.heap.size t l := by show (w.heap.push _)[w.heap.size]? = _; simp

set_option maxRecDepth 100000 in
set_option maxHeartbeats 2000000 in
theorem Deal_arg (t n : Int) (v : Value) (seed : List Int) (w : World) (h : Row .u8 w v seed) (hl : seed.length ≤ 10000) (hbad : t < 1 ∨ n < t ∨ 7 < n) :
    Calls Tryz.prog 18 #[v, .int .i64 t, .int .i64 n] w fun e w' => e = .returned (.tuple #[.agg #[.int .i64 0, .int .i64 0, .int .u64 0, .slice none 0 0], .slice none 0 0, .int .i64 1]) ∧ Below w.heap.size w w' := by
  obtain ⟨m, hm⟩ : ∃ m, seed.length = m := ⟨_, rfl⟩
  obtain ⟨a, c, rfl⟩ := h.shape m hm
  have q0 := Blk.new w 28 [.int .i64 0, .int .i64 0, .int .u64 0, .slice none 0 0]
  obtain ⟨B, hB⟩ : ∃ B, w.heap.size = B := ⟨_, rfl⟩
  obtain ⟨W, hW⟩ : ∃ W, w.alloc (.cells [.int .i64 0, .int .i64 0, .int .u64 0, .slice none 0 0].toArray 28) = W := ⟨_, rfl⟩
  have hb0 : Below w.heap.size w W := by rw [← hW]; exact (Below.refl _ _).alloc (Nat.le_refl _) _
  rw [hW, hB] at q0
  have S1 := Secret_any _ seed W (h.below hb0) hl
  obtain ⟨s, hs⟩ : ∃ s, Gm.secret seed = s := ⟨_, rfl⟩
  rw [hs] at S1
  have S2 := fun W' => Split_arg s t n a m c W' hbad
  have HW := Lib.hid hW; have HB := Lib.hid hB; have HB0 := Lib.hid hb0; have Q0 := Lib.hid q0
  clear h hl hbad hs hm hW hB hb0 q0
  go_enter Tryz.func18, Tryz.ntmps18
  go_wp2_with fail
  rw [show w.alloc (.cells #[.int .i64 0, .int .i64 0, .int .u64 0, .slice none 0 0] 28) = W from HW.out, HB.out]
  (try go_wp2_with fail)
  refine S1.mono ?_; rintro e w1 ⟨rfl, hb1⟩
  have q1 := Q0.out.below hb1
  have hb1' := HB0.out.trans (hb1.mono HB0.out.size)
  clear S1 hb1
  go_wp2_with fail
  refine (S2 _).mono ?_; rintro e w2 ⟨rfl, rfl⟩
  have c0 := q1.cell 0 _ rfl; have c1 := q1.cell 1 _ rfl; have c2 := q1.cell 2 _ rfl; have c3 := q1.cell 3 _ rfl; have lB := q1.lt
  have f0 := q1.free 0; have f1 := q1.free 1; have f2 := q1.free 2; have f3 := q1.free 3
  have Q1 := Lib.hid q1; have HB1 := Lib.hid hb1'
  clear q1 hb1' S2
  go_wp2_with fail
  refine bodyPost_ret (blk_ret2 (p := 6) (q := 7) (r := 8) (g := B) rfl rfl ((((Q1.out.set 0 (.int .i64 0)).set 1 (.int .i64 0)).set 2 (.int .u64 0)).set 3 (.slice none 0 0))) rfl ⟨rfl, ?_⟩
  have hB' : w.heap.size ≤ B := by rw [HB.out]; exact Nat.le_refl _
  exact (((HB1.out.setCell (p := ⟨B, 0, none⟩) hB' _).setCell (p := ⟨B, 1, none⟩) hB' _).setCell (p := ⟨B, 2, none⟩) hB' _).setCell (p := ⟨B, 3, none⟩) hB' _

theorem Shs.aside {w : World} {v : Value} {l : List Shr} (h : Shs w v l) {B : Nat} (hb : ∀ b o n c, v = .slice (some ⟨b, o, none⟩) n c → b ≠ B) (i : Nat) (u : Value) : Shs (w.setCell ⟨B, i, none⟩ u) v l := by
  obtain ⟨a, cap, rfl, h2, h3, h0, h5⟩ := h
  refine ⟨a, cap, rfl, h2, h3, h0, fun hne => ?_⟩
  obtain ⟨b, off, rfl, hlt, hc⟩ := h5 hne
  have hne' : b ≠ B := hb b off _ _ rfl
  refine ⟨b, off, rfl, by simpa using hlt, fun i' hi => ?_⟩
  obtain ⟨k0, k1⟩ := hc i' hi
  have hk : (w.setCell ⟨B, i, none⟩ u).heap[b]? = w.heap[b]? := Below.heap_setCell w ⟨B, i, none⟩ u b hne'
  exact ⟨(World.cell?_of_block (a := ⟨b, _, none⟩) hk).trans k0, (World.cell?_of_block (a := ⟨b, _, none⟩) hk).trans k1⟩

set_option maxRecDepth 100000 in
set_option maxHeartbeats 2000000 in
theorem Deal_yes (t n : Nat) (v : Value) (seed : List Int) (w : World) (h : Row .u8 w v seed) (hl : seed.length ≤ 10000) (t0 : 1 ≤ t) (tn : t ≤ n) (n7 : n ≤ 7) :
    Calls Tryz.prog 18 #[v, .int .i64 t, .int .i64 n] w fun e w' => (∃ ap cp aq cs, e = .returned (.tuple #[.agg #[.int .i64 t, .int .i64 n, .int .u64 (Gm.base (Gm.secret seed)), .slice ap n cp], .slice aq n cs, .int .i64 0]) ∧
      Shs w' (.slice ap n cp) ((Gm.split (Gm.secret seed) seed t n).map pubS) ∧ Shs w' (.slice aq n cs) (Gm.split (Gm.secret seed) seed t n) ∧ Past w.heap.size (.slice ap n cp) ∧ Past w.heap.size (.slice aq n cs)) ∧ Below w.heap.size w w' := by
  obtain ⟨m, hm⟩ : ∃ m, seed.length = m := ⟨_, rfl⟩
  obtain ⟨a, c, rfl⟩ := h.shape m hm
  have q0 := Blk.new w 28 [.int .i64 0, .int .i64 0, .int .u64 0, .slice none 0 0]
  obtain ⟨B, hB⟩ : ∃ B, w.heap.size = B := ⟨_, rfl⟩
  obtain ⟨W, hW⟩ : ∃ W, w.alloc (.cells [.int .i64 0, .int .i64 0, .int .u64 0, .slice none 0 0].toArray 28) = W := ⟨_, rfl⟩
  have hb0 : Below w.heap.size w W := by rw [← hW]; exact (Below.refl _ _).alloc (Nat.le_refl _) _
  rw [hW, hB] at q0
  have S1 := Secret_any _ seed W (h.below hb0) hl
  have sr : 1 ≤ Gm.secret seed ∧ Gm.secret seed < Gm.R := Gm.some_rng _ _
  obtain ⟨s, hs⟩ : ∃ s, Gm.secret seed = s := ⟨_, rfl⟩
  rw [hs] at S1 sr ⊢
  have hR := h
  have S2 := fun W' (hW' : Below w.heap.size w W') => Split_yes s t n _ seed W' (h.below hW') hl (by omega) sr.2 (by omega) (by omega) (by omega)
  rw [Int.toNat_natCast, Int.toNat_natCast] at S2
  have S3 := fun W' => SPublic_yes s W' (by omega) sr.2
  have hfit := (fit_part (l := Gm.split s seed t n) n7 (List.Sublist.refl _) (by intro e; have := Gm.split_len s seed t n; rw [e] at this; simp at this; omega)).1.1
  have hlen := Gm.split_len s seed t n
  obtain ⟨l, hll⟩ : ∃ l, Gm.split s seed t n = l := ⟨_, rfl⟩
  rw [hll] at S2 hfit hlen ⊢
  obtain ⟨g, hg⟩ : ∃ g, Gm.base s = g := ⟨_, rfl⟩
  rw [hg] at S3 ⊢
  have HW := Lib.hid hW; have HB := Lib.hid hB; have HB0 := Lib.hid hb0; have Q0 := Lib.hid q0; have H2 := Lib.hid S2; have HF := Lib.hid hfit; have HL := Lib.hid hlen
  clear h hl hs hm hW hB hb0 q0 hR S2 hfit hlen hll hg sr
  go_enter Tryz.func18, Tryz.ntmps18
  go_wp2_with fail
  rw [show w.alloc (.cells #[.int .i64 0, .int .i64 0, .int .u64 0, .slice none 0 0] 28) = W from HW.out, HB.out]
  (try go_wp2_with fail)
  refine S1.mono ?_; rintro e w1 ⟨rfl, hb1⟩
  have q1 := Q0.out.below hb1
  have hb1' := HB0.out.trans (hb1.mono HB0.out.size)
  have HB1 := Lib.hid hb1'; have Q1 := Lib.hid q1
  clear S1 hb1 q1 hb1'
  go_wp2_with fail
  refine (H2.out _ HB1.out).mono ?_; rintro e w2 ⟨⟨r, rfl, hr, hpr⟩, hb2⟩
  obtain ⟨aq, cs, rfl⟩ := hr.shapeN HL.out
  have q2 := (Q1.out.below hb2)
  have hb2' := HB1.out.trans (hb2.mono HB1.out.size)
  have hlt1 := Q1.out.lt
  have hBn : ∀ b o k c, Value.slice aq n cs = .slice (some ⟨b, o, none⟩) k c → b ≠ B := fun b o k c e => by have := hpr b o k c e; omega
  have PQ : Past w.heap.size (.slice aq n cs) := fun b o k c e => Nat.le_trans HB1.out.size (hpr b o k c e)
  have HPQ := Lib.hid PQ
  clear PQ
  have hB' : w.heap.size ≤ B := by rw [HB.out]; exact Nat.le_refl _
  obtain ⟨W2, hW2⟩ : ∃ W2, (w2.setCell ⟨B, 0, none⟩ (.int .i64 t)).setCell ⟨B, 1, none⟩ (.int .i64 n) = W2 := ⟨_, rfl⟩
  have c0 := q2.cell 0 _ rfl; have c1 := q2.cell 1 _ rfl; have lB := q2.lt
  have f0 := q2.free 0; have f1 := q2.free 1
  have q3 : Blk W2 B 28 [.int .i64 t, .int .i64 n, .int .u64 0, .slice none 0 0] := by rw [← hW2]; exact (q2.set 0 (.int .i64 t)).set 1 (.int .i64 n)
  have hr3 : Shs W2 (.slice aq n cs) l := by rw [← hW2]; exact (hr.aside hBn 0 _).aside hBn 1 _
  have hb3 : Below w.heap.size w W2 := by rw [← hW2]; exact (hb2'.setCell (p := ⟨B, 0, none⟩) hB' _).setCell (p := ⟨B, 1, none⟩) hB' _
  have HW2 := Lib.hid hW2; have Q3 := Lib.hid q3; have HR3 := Lib.hid hr3; have HB3 := Lib.hid hb3; have HBn := Lib.hid hBn
  clear q2 hb2' hr hpr hb2 hW2 q3 hr3 hb3 hBn H2
  go_wp2_with fail
  rw [HW2.out]
  (try go_wp2_with fail)
  refine (S3 _).mono ?_; rintro e w3 ⟨rfl, hb4⟩
  have q4 := Q3.out.below hb4
  have hr4 := HR3.out.below hb4
  have hb4' := HB3.out.trans (hb4.mono HB3.out.size)
  obtain ⟨W3, hW3⟩ : ∃ W3, w3.setCell ⟨B, 2, none⟩ (.int .u64 g) = W3 := ⟨_, rfl⟩
  clear c0 c1 f0 f1 lB
  have c2 := q4.cell 2 _ rfl; have f2 := q4.free 2; have lB := q4.lt
  have q5 : Blk W3 B 28 [.int .i64 t, .int .i64 n, .int .u64 g, .slice none 0 0] := by rw [← hW3]; exact q4.set 2 (.int .u64 g)
  have hr5 : Shs W3 (.slice aq n cs) l := by rw [← hW3]; exact hr4.aside HBn.out 2 _
  have hb5 : Below w.heap.size w W3 := by rw [← hW3]; exact hb4'.setCell (p := ⟨B, 2, none⟩) hB' _
  have S4 := SPub_yes _ l W3 hr5 HF.out
  have HW3 := Lib.hid hW3; have Q5 := Lib.hid q5; have HR5 := Lib.hid hr5; have HB5 := Lib.hid hb5
  clear q4 hr4 hb4' hW3 q5 hr5 hb5 hb4 S3
  go_wp2_with fail
  rw [HW3.out]
  (try go_wp2_with fail)
  refine S4.mono ?_; rintro e w4 ⟨⟨r, rfl, hr, hpr⟩, hb6⟩
  obtain ⟨ap, cp, rfl⟩ := hr.shapeN ((List.length_map ..).trans HL.out)
  have q6 := Q5.out.below hb6
  have hr6 := HR5.out.below hb6
  have hb6' := HB5.out.trans (hb6.mono HB5.out.size)
  have hlt5 := Q5.out.lt
  have hPn : ∀ b o k c, Value.slice ap n cp = .slice (some ⟨b, o, none⟩) k c → b ≠ B := fun b o k c e => by have := hpr b o k c e; omega
  have PP : Past w.heap.size (.slice ap n cp) := fun b o k c e => Nat.le_trans HB5.out.size (hpr b o k c e)
  have HPP := Lib.hid PP
  clear PP
  clear c2 f2 lB
  have c0 := q6.cell 0 _ rfl; have c1 := q6.cell 1 _ rfl; have c2 := q6.cell 2 _ rfl; have c3 := q6.cell 3 _ rfl; have lB := q6.lt
  have f0 := q6.free 0; have f1 := q6.free 1; have f2 := q6.free 2; have f3 := q6.free 3
  have Q6 := Lib.hid q6; have HR6 := Lib.hid hr6; have HB6 := Lib.hid hb6'; have HP6 := Lib.hid hr; have HPn := Lib.hid hPn
  clear q6 hr6 hb6' hr hpr hb6 S4 hPn
  go_wp2_with fail
  have hE := HBn.out; have hP := HPn.out
  refine bodyPost_ret (blk_ret2 (p := 6) (q := 7) (r := 8) (g := B) rfl rfl (((((Q6.out.set 3 (.slice ap n cp)).set 0 (.int .i64 t)).set 1 (.int .i64 n)).set 2 (.int .u64 g)).set 3 (.slice ap n cp))) rfl ⟨⟨ap, cp, aq, cs, rfl, ?_, ?_, HPP.out, HPQ.out⟩, ?_⟩
  · exact ((((HP6.out.aside hP 3 _).aside hP 0 _).aside hP 1 _).aside hP 2 _).aside hP 3 _
  · exact ((((HR6.out.aside hE 3 _).aside hE 0 _).aside hE 1 _).aside hE 2 _).aside hE 3 _
  · exact ((((HB6.out.setCell (p := ⟨B, 3, none⟩) hB' _).setCell (p := ⟨B, 0, none⟩) hB' _).setCell (p := ⟨B, 1, none⟩) hB' _).setCell (p := ⟨B, 2, none⟩) hB' _).setCell (p := ⟨B, 3, none⟩) hB' _
end Go.Proofs.YtlaidjgdipacgaaGreatDoor
end

section
namespace Go.Proofs.YtlaidjgdipacgaaGreatDoor
open Go.RowKit Go.Maps Go.Sort

theorem info_bool : (Tryz.prog.info? 4).map (fun i => (i.zero, i.size, i.bytes)) = some (some (.bool false), 1, 1) := by kernel_rfl
theorem blk_ret3 {tmps : Array Value} {W : World} {g : Nat} {fn : Func} {p q r s : Tmp} (hr : fn.results = #[.cell p 28, .tmp q, .tmp r, .tmp s]) (hp : tmps.getD p undef = .pointer (some ⟨g, 0, none⟩)) {x y z u : Value} (hd : Blk W g 28 [x, y, z, u]) :
    (results fn tmps).run Tryz.prog W = .ok (.tuple #[.agg #[x, y, z, u], tmps.getD q undef, tmps.getD r undef, tmps.getD s undef]) W := by
  have hp' : tmps[p]?.getD undef = .pointer (some ⟨g, 0, none⟩) := by simpa using hp
  simp [results, hr, hp', asAddr, run_loadVar_row W g 28 28 #[x, y, z, u] (0, 0) _ hd Tryz.underlying28 rfl (by kernel_rfl)]
/-- What dealt hands back where nothing is dealt. -/
abbrev noDeal : Value := .tuple #[.agg #[.int .i64 0, .int .i64 0, .int .u64 0, .slice none 0 0], .slice none 0 0, .slice none 0 0, .bool false]

/-- The shares that are picked. -/
def pickS : List Shr → List Bool → List Shr
  | x :: l, b :: k => if b then x :: pickS l k else pickS l k
  | _, _ => []
theorem pickS_sub : ∀ (l : List Shr) (k : List Bool), (pickS l k).Sublist l
  | [], k => by cases k <;> exact List.Sublist.refl _
  | x :: l, [] => List.nil_sublist _
  | x :: l, true :: k => (pickS_sub l k).cons_cons x
  | x :: l, false :: k => (pickS_sub l k).cons x
theorem pickS_len : ∀ (l : List Shr) (k : List Bool), l.length = k.length → (pickS l k).length = k.count true
  | [], [], _ => rfl
  | [], _ :: _, h => by simp at h
  | _ :: _, [], h => by simp at h
  | x :: l, true :: k, h => by
    have := pickS_len l k (by simpa using h)
    show (pickS l k).length + 1 = _
    rw [this]; simp
  | x :: l, false :: k, h => by
    have := pickS_len l k (by simpa using h)
    show (pickS l k).length = _
    rw [this]; simp
theorem pickS_snoc : ∀ (l : List Shr) (k : List Bool) (x : Shr) (b : Bool), l.length = k.length → pickS (l ++ [x]) (k ++ [b]) = pickS l k ++ (if b then [x] else [])
  | [], [], x, b, _ => by cases b <;> rfl
  | [], _ :: _, _, _, h => by simp at h
  | _ :: _, [], _, _, h => by simp at h
  | y :: l, c :: k, x, b, h => by
    have := pickS_snoc l k x b (by simpa using h)
    show (if c then y :: pickS (l ++ [x]) (k ++ [b]) else pickS (l ++ [x]) (k ++ [b])) = (if c then y :: pickS l k else pickS l k) ++ _
    rw [this]; cases c <;> rfl
theorem count_set : ∀ (k : List Bool) (i : Nat), k[i]? = some false → (k.set i true).count true = k.count true + 1
  | [], i, h => by simp at h
  | b :: k, 0, h => by simp at h; subst h; simp
  | b :: k, i + 1, h => by
    have := count_set k i (by simpa using h)
    show (b :: k.set i true).count true = _
    rw [List.count_cons, List.count_cons, this]; omega
theorem count_all (k : List Bool) (h : ∀ i, i < k.length → k[i]? = some true) : k.count true = k.length := by
  rw [List.count_eq_length]
  intro b hb
  obtain ⟨i, hi, rfl⟩ := List.mem_iff_getElem.1 hb
  have := h i hi
  rw [List.getElem?_eq_getElem hi] at this
  exact (Option.some.inj this).symm

set_option maxRecDepth 100000 in
set_option maxHeartbeats 2000000 in
theorem dealt_bad (t n : Int) (v vp : Value) (seed pick : List Int) (w : World) (h : Row .u8 w v seed) (hp : Row .i64 w vp pick) (hbad : 200 < seed.length ∨ 30 < pick.length ∨ t < 1 ∨ n < t ∨ 7 < n) :
    Calls Tryz.prog 5 #[v, .int .i64 t, .int .i64 n, vp] w fun e w' => e = .returned noDeal ∧ Below w.heap.size w w' := by
  obtain ⟨m, hm⟩ : ∃ m, seed.length = m := ⟨_, rfl⟩
  obtain ⟨a, c, rfl⟩ := h.shape m hm
  obtain ⟨k, hk⟩ : ∃ k, pick.length = k := ⟨_, rfl⟩
  obtain ⟨pa, pc, rfl⟩ := hp.shape k hk
  have q0 := Blk.new w 28 [.int .i64 0, .int .i64 0, .int .u64 0, .slice none 0 0]
  obtain ⟨B, hB⟩ : ∃ B, w.heap.size = B := ⟨_, rfl⟩
  obtain ⟨W, hW⟩ : ∃ W, w.alloc (.cells [.int .i64 0, .int .i64 0, .int .u64 0, .slice none 0 0].toArray 28) = W := ⟨_, rfl⟩
  have hb0 : Below w.heap.size w W := by rw [← hW]; exact (Below.refl _ _).alloc (Nat.le_refl _) _
  rw [hW, hB] at q0
  have hB' : w.heap.size ≤ B := by rw [hB]; exact Nat.le_refl _
  have S1 := fun h1 h2 => Deal_arg t n _ seed W (h.below hb0) h1 h2
  rw [hm, hk] at hbad
  rw [hm] at S1
  have HW := Lib.hid hW; have HB := Lib.hid hB; have HB0 := Lib.hid hb0; have Q0 := Lib.hid q0; have HS := Lib.hid S1
  clear h hp hm hk hW hB hb0 q0 S1
  have fin : ∀ (w1 : World), Blk w1 B 28 [.int .i64 0, .int .i64 0, .int .u64 0, .slice none 0 0] → Below w.heap.size w w1 → Below w.heap.size w ((((w1.setCell ⟨B, 0, none⟩ (.int .i64 0)).setCell ⟨B, 1, none⟩ (.int .i64 0)).setCell ⟨B, 2, none⟩ (.int .u64 0)).setCell ⟨B, 3, none⟩ (.slice none 0 0)) ∧ Blk ((((w1.setCell ⟨B, 0, none⟩ (.int .i64 0)).setCell ⟨B, 1, none⟩ (.int .i64 0)).setCell ⟨B, 2, none⟩ (.int .u64 0)).setCell ⟨B, 3, none⟩ (.slice none 0 0)) B 28 [.int .i64 0, .int .i64 0, .int .u64 0, .slice none 0 0] := fun w1 q hb =>
    ⟨(((hb.setCell (p := ⟨B, 0, none⟩) hB' _).setCell (p := ⟨B, 1, none⟩) hB' _).setCell (p := ⟨B, 2, none⟩) hB' _).setCell (p := ⟨B, 3, none⟩) hB' _, (((q.set 0 (.int .i64 0)).set 1 (.int .i64 0)).set 2 (.int .u64 0)).set 3 (.slice none 0 0)⟩
  have FIN := Lib.hid fin
  clear fin
  by_cases g1 : 200 < m
  · have g1' : (200 : Int) < (m : Int) := by omega
    go_enter Tryz.func5, Tryz.ntmps5
    go_wp2_with fail
    exact bodyPost_ret (blk_ret3 (p := 8) (q := 9) (r := 10) (s := 11) (g := w.heap.size) rfl rfl (Blk.new w 28 [.int .i64 0, .int .i64 0, .int .u64 0, .slice none 0 0])) rfl ⟨rfl, (Below.refl _ _).alloc (Nat.le_refl _) _⟩
  have g1' : ¬ (200 : Int) < (m : Int) := by omega
  by_cases g2 : 30 < k
  · have g2' : (30 : Int) < (k : Int) := by omega
    go_enter Tryz.func5, Tryz.ntmps5
    go_wp2_with fail
    exact bodyPost_ret (blk_ret3 (p := 8) (q := 9) (r := 10) (s := 11) (g := w.heap.size) rfl rfl (Blk.new w 28 [.int .i64 0, .int .i64 0, .int .u64 0, .slice none 0 0])) rfl ⟨rfl, (Below.refl _ _).alloc (Nat.le_refl _) _⟩
  have g2' : ¬ (30 : Int) < (k : Int) := by omega
  have S1 := HS.out (by omega) (by omega)
  clear HS
  go_enter Tryz.func5, Tryz.ntmps5
  go_wp2_with fail
  rw [show w.alloc (.cells #[.int .i64 0, .int .i64 0, .int .u64 0, .slice none 0 0] 28) = W from HW.out, HB.out]
  (try go_wp2_with fail)
  refine S1.mono ?_; rintro e w1 ⟨rfl, hb1⟩
  have q0 := Q0.out.below hb1
  have hb2 := HB0.out.trans (hb1.mono HB0.out.size)
  have Q1 := Lib.hid q0; have HB1 := Lib.hid hb2
  have c0 := q0.cell 0 _ rfl; have c1 := q0.cell 1 _ rfl; have c2 := q0.cell 2 _ rfl; have c3 := q0.cell 3 _ rfl; have lB := q0.lt
  have f0 := q0.free 0; have f1 := q0.free 1; have f2 := q0.free 2; have f3 := q0.free 3
  clear q0 hb2 S1 hb1
  go_wp2_with fail
  have hF := FIN.out _ Q1.out HB1.out
  exact bodyPost_ret (blk_ret3 (p := 8) (q := 9) (r := 10) (s := 11) (g := B) rfl rfl (hF.2.alloc _)) rfl ⟨rfl, hF.1.alloc hF.1.size _⟩
end Go.Proofs.YtlaidjgdipacgaaGreatDoor
end

section
namespace Go.Proofs.YtlaidjgdipacgaaGreatDoor
open Go.RowKit Go.Maps Go.Sort

theorem made_bools (n : Nat) : (madeCells (Value.bool false).cells (n * 1)).toList = (List.replicate n false).map Value.bool := by
  rw [Nat.mul_one]; show (madeCells #[Value.bool false] n).toList = _
  rw [toList_madeCells_one]; simp
theorem bool_at {W : World} {G : Nat} {tk : List Bool} (h : Blk W G 4 (tk.map Value.bool)) (i : Nat) (hi : i < tk.length) : ∃ b, tk[i]? = some b ∧ W.cell? ⟨G, i, none⟩ = some (.bool b) :=
  ⟨tk[i], List.getElem?_eq_getElem hi, h.cell i _ (by rw [List.getElem?_map, List.getElem?_eq_getElem hi]; rfl)⟩

set_option maxRecDepth 100000 in
set_option maxHeartbeats 2000000 in
theorem dealt_good (T N : Nat) (v vp : Value) (seed pick : List Int) (w : World) (h : Row .u8 w v seed) (hp : Row .i64 w vp pick) (hs : seed.length ≤ 200) (hpl : pick.length ≤ 30) (t0 : 1 ≤ T) (tn : T ≤ N) (n7 : N ≤ 7) :
    Calls Tryz.prog 5 #[v, .int .i64 T, .int .i64 N, vp] w fun e w' => (∃ ap cp aq cs ao co no l, e = .returned (.tuple #[.agg #[.int .i64 T, .int .i64 N, .int .u64 (Gm.base (Gm.secret seed)), .slice ap N cp], .slice aq N cs, .slice ao no co, .bool true]) ∧
      Shs w' (.slice ap N cp) ((Gm.split (Gm.secret seed) seed T N).map pubS) ∧ Shs w' (.slice aq N cs) (Gm.split (Gm.secret seed) seed T N) ∧ Shs w' (.slice ao no co) l ∧ l.Sublist (Gm.split (Gm.secret seed) seed T N) ∧ T ≤ l.length) ∧ Below w.heap.size w w' := by
  obtain ⟨m, hm⟩ : ∃ m, seed.length = m := ⟨_, rfl⟩
  obtain ⟨a, c, rfl⟩ := h.shape m hm
  obtain ⟨K, hk⟩ : ∃ k, pick.length = k := ⟨_, rfl⟩
  obtain ⟨pa, pc, rfl⟩ := hp.shape K hk
  obtain ⟨i0, gi, gz0, gz1, gz2⟩ := info_parts info_share
  obtain ⟨i1, bi, bz0, bz1, bz2⟩ := info_parts info_bool
  have q0 := Blk.new w 28 [.int .i64 0, .int .i64 0, .int .u64 0, .slice none 0 0]
  obtain ⟨B, hB⟩ : ∃ B, w.heap.size = B := ⟨_, rfl⟩
  obtain ⟨W, hW⟩ : ∃ W, w.alloc (.cells [.int .i64 0, .int .i64 0, .int .u64 0, .slice none 0 0].toArray 28) = W := ⟨_, rfl⟩
  have hb0 : Below w.heap.size w W := by rw [← hW]; exact (Below.refl _ _).alloc (Nat.le_refl _) _
  rw [hW, hB] at q0
  have hB' : w.heap.size ≤ B := by rw [hB]; exact Nat.le_refl _
  have S1 := Deal_yes T N _ seed W (h.below hb0) (by omega) t0 tn n7
  have hlen := Gm.split_len (Gm.secret seed) seed T N
  obtain ⟨l, hl⟩ : ∃ l, Gm.split (Gm.secret seed) seed T N = l := ⟨_, rfl⟩
  obtain ⟨g, hg⟩ : ∃ x, Gm.base (Gm.secret seed) = x := ⟨_, rfl⟩
  rw [hl] at hlen
  rw [hl, hg] at S1
  rw [hl, hg]
  have m2 : ¬ (200 : Int) < (m : Int) := by omega
  have k3 : ¬ (30 : Int) < (K : Int) := by omega
  have HW := Lib.hid hW; have HB := Lib.hid hB; have HB0 := Lib.hid hb0; have Q0 := Lib.hid q0; have HL := Lib.hid hlen; have HP := Lib.hid hp; have HK := Lib.hid hk
  clear h hp hm hk hW hB hb0 q0 hlen hl hg hs hpl
  go_enter Tryz.func5, Tryz.ntmps5
  go_wp2_with fail
  rw [show w.alloc (.cells #[.int .i64 0, .int .i64 0, .int .u64 0, .slice none 0 0] 28) = W from HW.out, HB.out]
  (try go_wp2_with fail)
  refine S1.mono ?_; rintro e w1 ⟨⟨ap, cp, aq, cs, rfl, hpub, hsh, pap, pash⟩, hb1⟩
  have q1 := Q0.out.below hb1
  have hb1' := HB0.out.trans (hb1.mono HB0.out.size)
  have Q1 := Lib.hid q1; have HB1 := Lib.hid hb1'; have HPUB := Lib.hid hpub; have HSH := Lib.hid hsh
  have lBW := Q0.out.lt
  have PAP := Lib.hid (show ∀ b o k c, Value.slice ap N cp = .slice (some ⟨b, o, none⟩) k c → b ≠ B from fun b o k c e => by have := pap b o k c e; omega)
  have PAQ := Lib.hid (show ∀ b o k c, Value.slice aq N cs = .slice (some ⟨b, o, none⟩) k c → b ≠ B from fun b o k c e => by have := pash b o k c e; omega)
  clear S1 hb1 q1 hb1' hpub hsh pap pash lBW
  go_wp2_with (first
    | (at_make; refine wpList_make_full _ rfl _ _ 63 rfl 0 4 i1 (.bool false) 1 Tryz.underlying63 bi bz0 bz1 .i64 .i64 N N N rfl rfl rfl rfl (by rw [bz2]; omega) (by unfold maxLen; omega) (Nat.zero_le _) ?_; intro w2 hown hgrow)
    | fail)
  have hG := Blk.of_made hown
  rw [made_bools N, World.size_alloc] at hG
  have hC := (Blk.new w1 28 [.int .i64 T, .int .i64 N, .int .u64 g, .slice ap N cp]).grown hgrow
  have hw2 : Below w1.heap.size w1 w2 := ((Below.refl _ _).alloc (Nat.le_refl _) _).grown hgrow (by simp) (fun k e => by cases e)
  obtain ⟨C, hCn⟩ : ∃ C, w1.heap.size = C := ⟨_, rfl⟩
  have HCn := Lib.hid hCn
  rw [hCn] at hG hC hw2 ⊢
  clear hown hgrow hCn
  have cnt0 : ((List.replicate N false).count true : Nat) = 0 := by simp [List.count_replicate]
  go_loopw [16, 72] (fun cv i wr => ∃ (k : Nat) (tk : List Bool), i = .int .i64 k ∧ k ≤ K ∧ tk.length = N ∧ tk.count true ≤ T ∧ cv = .int .i64 (tk.count true : Nat) ∧ Blk wr (C + 1) 4 (tk.map Value.bool) ∧ Blk wr C 28 [.int .i64 T, .int .i64 N, .int .u64 g, .slice ap N cp] ∧ Below C w1 wr) (fun _ i _ => K - (intOf i).toNat)
  case atStart => exact ⟨0, List.replicate N false, rfl, Nat.zero_le _, by simp, by omega, by rw [cnt0]; rfl, hG, hC, hw2⟩
  case round =>
    obtain ⟨k, tk, rfl, hk, htl, htc, rfl, hGr, hCr, hb⟩ := hrel
    clear hG hC hw2 cnt0
    have k0 : (0 : Int) ≤ (k : Int) := by omega
    have e1 : IntKind.i64.wrap ((k : Int) + 1) = (k : Int) + 1 := IntWalk.i64_in _ (by omega)
    by_cases hlt : k < K
    · have k1 : (k : Int) < (K : Int) := by omega
      have hkl : k < pick.length := by rw [HK.out]; exact hlt
      have hrow := (HP.out.below HB1.out)
      obtain ⟨_, _, e', -, -, -, -, hcl⟩ := hrow
      cases e'
      obtain ⟨b, o, rfl, hbl, hcell⟩ := hcl (by rintro rfl; simp at hkl)
      have y := (hb.cell (p := ⟨b, o + k, none⟩) (by show b < C; rw [← HCn.out]; exact hbl)).trans (hcell k hkl)
      have hblr : b < wr.heap.size := Nat.lt_of_lt_of_le hbl hb.size
      obtain ⟨p, hp⟩ : ∃ p, pick[k]?.getD 0 = p := ⟨_, rfl⟩
      rw [hp] at y
      have HG := Lib.hid hGr; have HC := Lib.hid hCr; have Hb := Lib.hid hb; have HTL := Lib.hid htl; have HTC := Lib.hid htc
      clear hp hcell hcl hCr hb
      by_cases p0 : p < 0
      · have p0' : ¬ (0 : Int) ≤ p := by omega
        clear hGr htl htc
        go_wp2_with fail
        go_roundw
        case rel => exact ⟨k + 1, tk, by go_num, by omega, HTL.out, HTC.out, rfl, HG.out, HC.out, Hb.out⟩
        case measure => simp [intOf]; omega
      obtain ⟨P, rfl⟩ := Int.eq_ofNat_of_zero_le (show 0 ≤ p by omega)
      clear p0
      by_cases p1 : N ≤ P
      · have p1' : ¬ (P : Int) < (N : Int) := by omega
        have p0' : (0 : Int) ≤ (P : Int) := by omega
        clear hGr htl htc
        go_wp2_with fail
        go_roundw
        case rel => exact ⟨k + 1, tk, by go_num, by omega, HTL.out, HTC.out, rfl, HG.out, HC.out, Hb.out⟩
        case measure => simp [intOf]; omega
      have p1' : (P : Int) < (N : Int) := by omega
      have p0' : (0 : Int) ≤ (P : Int) := by omega
      obtain ⟨bb, hbb, ybb⟩ := bool_at hGr P (by rw [htl]; omega)
      have lG := hGr.lt
      cases bb with
      | true =>
        clear hGr htl htc hbb
        go_wp2_with fail
        go_roundw
        case rel => exact ⟨k + 1, tk, by go_num, by omega, HTL.out, HTC.out, rfl, HG.out, HC.out, Hb.out⟩
        case measure => simp [intOf]; omega
      | false =>
        by_cases c1 : tk.count true < T
        · have cs := count_set tk P hbb
          have fr := hGr.free P
          have hG2 := hGr.set P (.bool true)
          have hC2 := HC.out.other (show C ≠ C + 1 by omega) P (.bool true)
          have hb2 : Below C w1 (wr.setCell ⟨C + 1, P, none⟩ (.bool true)) := Hb.out.setCell (p := ⟨C + 1, P, none⟩) (by show C ≤ C + 1; omega) _
          obtain ⟨cn, hcn⟩ : ∃ x, tk.count true = x := ⟨_, rfl⟩
          rw [hcn] at c1 cs ⊢
          have c1' : (cn : Int) < (T : Int) := by omega
          have e4 : IntKind.i64.wrap ((cn : Int) + 1) = (cn : Int) + 1 := IntWalk.i64_in _ (by omega)
          have HG2 := Lib.hid hG2; have HC2 := Lib.hid hC2; have Hb2 := Lib.hid hb2; have HCS := Lib.hid cs
          clear hGr htl htc hbb hG2 hC2 hb2 cs hcn
          go_wp2_with fail
          go_roundw
          case rel => exact ⟨k + 1, tk.set P true, by go_num, by omega, by rw [List.length_set]; exact HTL.out, by rw [HCS.out]; omega, by rw [HCS.out]; rfl, by rw [List.map_set]; exact HG2.out, HC2.out, Hb2.out⟩
          case measure => simp [intOf]; omega
        · obtain ⟨cn, hcn⟩ : ∃ x, tk.count true = x := ⟨_, rfl⟩
          rw [hcn] at c1 ⊢
          have c1' : ¬ (cn : Int) < (T : Int) := by omega
          have HCN := Lib.hid hcn
          clear hGr htl htc hbb hcn
          go_wp2_with fail
          go_roundw
          case rel => exact ⟨k + 1, tk, by go_num, by omega, HTL.out, HTC.out, by rw [HCN.out], HG.out, HC.out, Hb.out⟩
          case measure => simp [intOf]; omega
    · obtain rfl : k = K := by omega
      clear hlt k0 e1
      obtain ⟨cv, hcv⟩ : ∃ x, tk.count true = x := ⟨_, rfl⟩
      have HCV := Lib.hid hcv
      rw [hcv]
      clear hcv
      go_wp2_with fail
      go_loopw [16, 19] (fun cv i wr => ∃ (j : Nat) (tk : List Bool), i = .int .i64 j ∧ j ≤ N ∧ tk.length = N ∧ tk.count true ≤ T ∧ cv = .int .i64 (tk.count true : Nat) ∧ (∀ q, q < j → tk[q]? = some true) ∧ Blk wr (C + 1) 4 (tk.map Value.bool) ∧ Blk wr C 28 [.int .i64 T, .int .i64 N, .int .u64 g, .slice ap N cp] ∧ Below C w1 wr) (fun _ i _ => N - (intOf i).toNat)
      case atStart => exact ⟨0, tk, rfl, Nat.zero_le _, htl, htc, by rw [HCV.out], fun q hq => absurd hq (Nat.not_lt_zero _), hGr, hCr, hb⟩
      case round =>
        clear hGr hCr hb htl htc HCV
        obtain ⟨j, tk, rfl, hj, htl, htc, rfl, hal, hGr, hCr, hb⟩ := hrel
        have j0 : (0 : Int) ≤ (j : Int) := by omega
        have e1 : IntKind.i64.wrap ((j : Int) + 1) = (j : Int) + 1 := IntWalk.i64_in _ (by omega)
        obtain ⟨cn, hcn⟩ : ∃ x, tk.count true = x := ⟨_, rfl⟩
        rw [hcn] at htc ⊢
        by_cases hgo : j < N ∧ cn < T
        · obtain ⟨hlt, hct⟩ := hgo
          have j1 : (j : Int) < (N : Int) := by omega
          have c1 : (cn : Int) < (T : Int) := by omega
          obtain ⟨bb, hbb, ybb⟩ := bool_at hGr j (by rw [htl]; exact hlt)
          have lG := hGr.lt
          have HG := Lib.hid hGr; have HC := Lib.hid hCr; have Hb := Lib.hid hb; have HTL := Lib.hid htl; have HAL := Lib.hid hal; have HCN := Lib.hid hcn
          cases bb with
          | true =>
            have hal' : ∀ q, q < j + 1 → tk[q]? = some true := fun q hq => by
              by_cases e : q = j
              · rw [e]; exact hbb
              · exact hal q (by omega)
            have HAL' := Lib.hid hal'
            clear hGr hCr hb htl hbb hal hcn hal'
            go_wp2_with fail
            go_roundw
            case rel => exact ⟨j + 1, tk, by go_num, by omega, HTL.out, by rw [HCN.out]; omega, by rw [HCN.out], HAL'.out, HG.out, HC.out, Hb.out⟩
            case measure => simp [intOf]; omega
          | false =>
            have cs := count_set tk j hbb
            rw [hcn] at cs
            have fr := hGr.free j
            have hG2 := hGr.set j (.bool true)
            have hC2 := HC.out.other (show C ≠ C + 1 by omega) j (.bool true)
            have hb2 : Below C w1 (wr.setCell ⟨C + 1, j, none⟩ (.bool true)) := Hb.out.setCell (p := ⟨C + 1, j, none⟩) (by show C ≤ C + 1; omega) _
            have e4 : IntKind.i64.wrap ((cn : Int) + 1) = (cn : Int) + 1 := IntWalk.i64_in _ (by omega)
            have hal' : ∀ q, q < j + 1 → (tk.set j true)[q]? = some true := fun q hq => by
              by_cases e : q = j
              · rw [e, List.getElem?_set_self (by rw [htl]; exact hlt)]
              · rw [List.getElem?_set_ne (fun h => e h.symm)]; exact hal q (by omega)
            have HG2 := Lib.hid hG2; have HC2 := Lib.hid hC2; have Hb2 := Lib.hid hb2; have HCS := Lib.hid cs; have HAL' := Lib.hid hal'
            clear hGr hCr hb htl hbb hal hcn hal' hG2 hC2 hb2 cs
            go_wp2_with fail
            go_roundw
            case rel => exact ⟨j + 1, tk.set j true, by go_num, by omega, by rw [List.length_set]; exact HTL.out, by rw [HCS.out]; omega, by rw [HCS.out]; rfl, HAL'.out, by rw [List.map_set]; exact HG2.out, HC2.out, Hb2.out⟩
            case measure => simp [intOf]; omega
        · have hT : cn = T := by
            by_cases e : j < N
            · omega
            · have h1 : tk.count true = tk.length := count_all tk fun q hq => hal q (by omega)
              omega
          subst hT
          have hex : (decide ((j : Int) < (N : Int)) && decide ((cn : Int) < (cn : Int))) = false := by simp
          have c1 : ¬ (cn : Int) < (cn : Int) := by omega
          have HG := Lib.hid hGr; have HC := Lib.hid hCr; have Hb := Lib.hid hb; have HTL := Lib.hid htl; have HCN := Lib.hid hcn
          clear hGr hCr hb htl hal hcn htc hgo
          have p2 := HG.out.lt
          obtain ⟨w3, hw3⟩ : ∃ x, x = wr := ⟨_, rfl⟩
          subst hw3
          have sh3 : Shs w3 (.slice aq N cs) l := HSH.out.below (by rw [HCn.out]; exact Hb.out)
          have pb3 : Shs w3 (.slice ap N cp) (l.map pubS) := HPUB.out.below (by rw [HCn.out]; exact Hb.out)
          have b3 : Blk w3 B 28 [.int .i64 0, .int .i64 0, .int .u64 0, .slice none 0 0] := Q1.out.below (by rw [HCn.out]; exact Hb.out)
          have w03 : Below w.heap.size w w3 := HB1.out.trans (Hb.out.mono (by rw [← HCn.out]; exact HB1.out.size))
          have SH3 := Lib.hid sh3; have PB3 := Lib.hid pb3; have B3 := Lib.hid b3; have W03 := Lib.hid w03
          have own0 : w3.ownsRow w3.heap.size 65 2 (.slice none 0 0) 0 [] := ⟨rfl, .inl ⟨rfl, rfl⟩⟩
          clear sh3 pb3 b3 w03
          go_wp2_with fail
          all_goals
            go_loopw [20, 123] (fun ov i wr => ∃ (q : Nat), i = .int .i64 q ∧ q ≤ N ∧ wr.ownsRow w3.heap.size 65 2 ov (pickS (l.take q) (tk.take q)).length (shCells (pickS (l.take q) (tk.take q))) ∧ Below w3.heap.size w3 wr) (fun _ i _ => N - (intOf i).toNat)
            case atStart => exact ⟨0, rfl, Nat.zero_le _, own0, Below.refl _ _⟩
            case round =>
              clear own0
              obtain ⟨q, rfl, hq, ho, hb⟩ := hrel
              have q0 : (0 : Int) ≤ (q : Int) := by omega
              have e3 : IntKind.i64.wrap ((q : Int) + 1) = (q : Int) + 1 := IntWalk.i64_in _ (by omega)
              by_cases hql : q < N
              · have q1 : (q : Int) < (N : Int) := by omega
                have hqs : q < l.length := by rw [HL.out]; exact hql
                have hqt : q < tk.length := by rw [HTL.out]; exact hql
                have hs := SH3.out.below hb
                obtain ⟨b, o, rfl, hbl, y0, y1⟩ := hs.at q hqs
                obtain ⟨bb, hbb, ybb⟩ := bool_at (HG.out.below hb) q hqt
                have hat : l[q]?.getD shNo = l[q] := by rw [List.getElem?_eq_getElem hqs]; rfl
                rw [hat] at y0 y1
                have hsn := pickS_snoc (l.take q) (tk.take q) l[q] bb (by rw [List.length_take, List.length_take]; omega)
                have ht1 : l.take (q + 1) = l.take q ++ [l[q]] := by rw [List.take_add_one, List.getElem?_eq_getElem hqs]; rfl
                have ht2 : tk.take (q + 1) = tk.take q ++ [bb] := by rw [List.take_add_one, hbb]; rfl
                rw [← ht1, ← ht2] at hsn
                obtain ⟨pp, hpp⟩ : ∃ x, l[q] = x := ⟨_, rfl⟩
                rw [hpp] at y0 y1 hsn
                obtain ⟨pi, px⟩ := pp
                dsimp only at y0 y1
                obtain ⟨oa, on, oc, rfl⟩ := owns_slice ho
                have plen : (pickS (l.take q) (tk.take q)).length ≤ 7 := by have := (pickS_sub (l.take q) (tk.take q)).length_le; rw [List.length_take] at this; omega
                have lG := (HG.out.below hb).lt
                have HO := Lib.hid ho; have Hbz := Lib.hid hb; have HSN := Lib.hid hsn
                clear ho hb hs hbb hat ht1 ht2 hpp hsn
                cases bb with
                | false =>
                  go_wp2_with fail
                  go_roundw
                  case rel =>
                    refine ⟨q + 1, by go_num, by omega, ?_, Hbz.out.alloc Hbz.out.size _⟩
                    have e := HSN.out
                    rw [show (if false = true then [(pi, px)] else ([] : List Shr)) = [] from rfl, List.append_nil] at e
                    rw [e]
                    exact HO.out.alloc _
                  case measure => simp [intOf]; omega
                | true =>
                  have q7 := Duo.new wr 65 (.int .i64 pi) (.int .u64 px)
                  have x0 := q7.cell0; have x1 := q7.cell1; have lx := q7.lt
                  go_wp2_with (first
                    | (at_builtin
                       refine wpList_append_own _ rfl (.tmp 132) (.tmp 134) 26 rfl w3.heap.size 65 i0 (.agg #[.int .i64 0, .int .u64 0]) 2 16 Tryz.underlying26 gi gz0 gz1 gz2 rfl (by decide) _ _ _ rfl ((HO.out.alloc _).alloc _) ⟨wr.heap.size + 1, 0, none⟩ 1 1 [.int .i64 pi, .int .u64 px] rfl (by simp) (by have := cells_new2 (wr.alloc (.cells #[.int .i64 pi, .int .u64 px] 65)) (.int .i64 pi) (.int .u64 px) 65; simpa using this) (by intro u hu; simp at hu; rcases hu with rfl | rfl <;> rfl) (by unfold maxLen; omega) (by omega) (by have := Hbz.out.size; simp; omega) ?_
                       intro v' wv hown' hgrow _)
                    | fail)
                  go_roundw
                  case rel =>
                    refine ⟨q + 1, by go_num, by omega, ?_, ?_⟩
                    · have e := HSN.out
                      rw [show (if true = true then [(pi, px)] else ([] : List Shr)) = [(pi, px)] from rfl] at e
                      rw [e, shCells_snoc, List.length_append]
                      exact hown'
                    · exact ((Hbz.out.alloc Hbz.out.size _).alloc (by have := Hbz.out.size; simp; omega) _).grown hgrow (by have := Hbz.out.size; simp; omega) (fun k e => own_above HO.out e)
                  case measure => simp [intOf]; omega
              · obtain rfl : q = N := by omega
                have f1 : l.take q = l := List.take_of_length_le (by rw [HL.out]; exact Nat.le_refl _)
                have f2 : tk.take q = tk := List.take_of_length_le (by rw [HTL.out]; exact Nat.le_refl _)
                rw [f1, f2] at ho
                have plen := pickS_len l tk (by rw [HL.out, HTL.out])
                rw [HCN.out] at plen
                have hout := Shs.of_owns ho
                have hpast := past_own ho
                obtain ⟨oa, on, oc, rfl⟩ := owns_slice ho
                have bB := B3.out.below hb
                have bC := HC.out.below hb
                have c0 := bB.cell 0 _ rfl; have c1' := bB.cell 1 _ rfl; have c2 := bB.cell 2 _ rfl; have c3 := bB.cell 3 _ rfl; have lB := bB.lt
                have f0 := bB.free 0; have f1' := bB.free 1; have f2' := bB.free 2; have f3 := bB.free 3
                have d0 := bC.cell 0 _ rfl; have d1 := bC.cell 1 _ rfl; have d2 := bC.cell 2 _ rfl; have d3 := bC.cell 3 _ rfl; have lC := bC.lt
                have BB := Lib.hid bB; have OUT := Lib.hid hout; have PST := Lib.hid hpast; have PL := Lib.hid plen; have Hbz := Lib.hid hb
                clear bB bC hout hpast plen hb ho f1 f2
                go_wp2_with fail
                have lB3 := B3.out.lt
                have pO : ∀ b o k c, Value.slice oa on oc = .slice (some ⟨b, o, none⟩) k c → b ≠ B := fun b o k c e => by have := PST.out b o k c e; omega
                have pP := PAP.out; have pQ := PAQ.out
                have sP := PB3.out.below Hbz.out
                have sQ := SH3.out.below Hbz.out
                have sB := W03.out.trans (Hbz.out.mono W03.out.size)
                refine bodyPost_ret (blk_ret3 (p := 8) (q := 9) (r := 10) (s := 11) (g := B) rfl rfl ((((BB.out.set 0 (.int .i64 cn)).set 1 (.int .i64 q)).set 2 (.int .u64 g)).set 3 (.slice ap q cp))) rfl ⟨⟨ap, cp, aq, cs, oa, oc, on, pickS l tk, rfl, ?_, ?_, ?_, pickS_sub l tk, ?_⟩, ?_⟩
                · exact (((sP.aside pP 0 _).aside pP 1 _).aside pP 2 _).aside pP 3 _
                · exact (((sQ.aside pQ 0 _).aside pQ 1 _).aside pQ 2 _).aside pQ 3 _
                · exact (((OUT.out.aside pO 0 _).aside pO 1 _).aside pO 2 _).aside pO 3 _
                · rw [PL.out]; exact Nat.le_refl _
                · exact (((sB.setCell (p := ⟨B, 0, none⟩) hB' _).setCell (p := ⟨B, 1, none⟩) hB' _).setCell (p := ⟨B, 2, none⟩) hB' _).setCell (p := ⟨B, 3, none⟩) hB' _
end Go.Proofs.YtlaidjgdipacgaaGreatDoor
end
