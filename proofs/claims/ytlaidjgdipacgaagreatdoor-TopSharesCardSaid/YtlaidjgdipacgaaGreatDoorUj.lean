/-
  The walk over share.Split.
-/
import Derived.Test.YtlaidjgdipacgaaGreatDoorWe
import Derived.Test.YtlaidjgdipacgaaGreatDoorYx
namespace Go.Proofs.YtlaidjgdipacgaaGreatDoor
open Go.RowKit Go.Maps Go.Sort

/-- A block whose cells these are. -/
def Blk (w : World) (g : Nat) (t : TypeId) (l : List Value) : Prop := w.heap[g]? = some (.cells l.toArray t)
theorem Blk.lt {w : World} {g : Nat} {t : TypeId} {l : List Value} (h : Blk w g t l) : g < w.heap.size := (Array.getElem?_eq_some_iff.1 h).1
theorem Blk.cell {w : World} {g : Nat} {t : TypeId} {l : List Value} (h : Blk w g t l) (i : Nat) (v : Value) (hv : l[i]? = some v) : w.cell? ⟨g, i, none⟩ = some v := by
  simp [World.cell?, show w.heap[g]? = _ from h, hv]
theorem Blk.free {w : World} {g : Nat} {t : TypeId} {l : List Value} (h : Blk w g t l) (i : Nat) : w.frozen? ⟨g, i, none⟩ = false := by
  simp [World.frozen?, show w.heap[g]? = _ from h]
theorem Blk.set {w : World} {g : Nat} {t : TypeId} {l : List Value} (h : Blk w g t l) (i : Nat) (v : Value) : Blk (w.setCell ⟨g, i, none⟩ v) g t (l.set i v) := by
  obtain ⟨hlt, hk⟩ := Array.getElem?_eq_some_iff.1 h
  show (w.heap.modify g _)[g]? = _
  rw [Array.getElem?_eq_getElem (by rw [Array.size_modify]; exact hlt), Array.getElem_modify_self, hk]
  simp
theorem Blk.kept {w w' : World} {g : Nat} {t : TypeId} {l : List Value} (h : Blk w g t l) (hg : w'.heap[g]? = w.heap[g]?) : Blk w' g t l := hg.trans h
theorem Blk.other {w : World} {g : Nat} {t : TypeId} {l : List Value} (h : Blk w g t l) {b : Nat} (hne : g ≠ b) (i : Nat) (v : Value) : Blk (w.setCell ⟨b, i, none⟩ v) g t l := h.kept (Below.heap_setCell w ⟨b, i, none⟩ v g hne)
theorem Blk.below {w w' : World} {g : Nat} {t : TypeId} {l : List Value} (h : Blk w g t l) (hb : Below w.heap.size w w') : Blk w' g t l := h.kept (hb.block g h.lt)
theorem Blk.alloc {w : World} {g : Nat} {t : TypeId} {l : List Value} (h : Blk w g t l) (o : Obj) : Blk (w.alloc o) g t l := h.below ((Below.refl _ _).alloc (Nat.le_refl _) o)
theorem Blk.grown {w w' : World} {g : Nat} {t : TypeId} {l : List Value} (h : Blk w g t l) (hg : w.grownBy w' none) : Blk w' g t l := h.kept (hg.block g h.lt (by simp))
theorem Blk.of_made {w : World} {base g n sz : Nat} {t : TypeId} {xs : List Value} (h : w.ownsRow base t sz (.slice (some ⟨g, 0, none⟩) n n) n xs) : Blk w g t xs := by
  rcases h.2 with ⟨h1, _⟩ | ⟨g', cap', cur, h1, hb, hg, hnc, hcm, hcs, ht⟩
  · cases h1
  · cases h1
    have : cur.toList.take (n * sz) = cur.toList := List.take_of_length_le (by simp [hcs])
    rw [this] at ht
    rw [← ht]
    exact hg

namespace Gm
def tShare : List Int := [115, 104, 97, 114, 101]
def coef (secret : Int) (seed : List Int) (i : Nat) : Int := if i = 0 then secret else hnum tShare [seed, [(i : Int)]] R
def poly (secret : Int) (seed : List Int) (t : Nat) : List Int := (List.range t).map (coef secret seed)
theorem coef_rng (s : Int) (seed : List Int) (i : Nat) (h0 : 0 ≤ s) (h1 : s < R) : 0 ≤ coef s seed i ∧ coef s seed i < R := by
  unfold coef
  split
  · exact ⟨h0, h1⟩
  · exact hnum_rng _ _
def upTo (f : Nat → Int) (t k : Nat) : List Int := (List.range t).map fun j => if j < k then f j else 0
theorem upTo_zero (f : Nat → Int) (t : Nat) : upTo f t 0 = List.replicate t 0 := by
  unfold upTo
  apply List.ext_getElem
  · simp
  · intro i h1 h2; simp
theorem upTo_full (f : Nat → Int) (t : Nat) : upTo f t t = (List.range t).map f := by
  unfold upTo
  apply List.map_congr_left
  intro j hj
  rw [if_pos (List.mem_range.1 hj)]
theorem upTo_step (f : Nat → Int) (t k : Nat) : (upTo f t k).set k (f k) = upTo f t (k + 1) := by
  unfold upTo
  apply List.ext_getElem
  · simp
  · intro i h1 h2
    simp at h2
    rw [List.getElem_set]
    by_cases e : k = i
    · subst e; simp
    · rw [if_neg e]
      simp only [List.getElem_map, List.getElem_range]
      by_cases hi : i < k
      · rw [if_pos hi, if_pos (by omega)]
      · rw [if_neg hi, if_neg (by omega)]
def shTo (f : Nat → Int) (n k : Nat) : List Shr := (List.range n).map fun j => if j < k then ((j : Int) + 1, f j) else (0, 0)
theorem shTo_zero (f : Nat → Int) (n : Nat) : shTo f n 0 = List.replicate n (0, 0) := by
  unfold shTo
  apply List.ext_getElem
  · simp
  · intro i h1 h2; simp
theorem shTo_step (f : Nat → Int) (n k : Nat) : (shTo f n k).set k ((k : Int) + 1, f k) = shTo f n (k + 1) := by
  unfold shTo
  apply List.ext_getElem
  · simp
  · intro i h1 h2
    simp at h2
    rw [List.getElem_set]
    by_cases e : k = i
    · subst e; simp
    · rw [if_neg e]
      simp only [List.getElem_map, List.getElem_range]
      by_cases hi : i < k
      · rw [if_pos hi, if_pos (by omega)]
      · rw [if_neg hi, if_neg (by omega)]
theorem shTo_at (f : Nat → Int) (n k : Nat) (h : k < n) : (shTo f n k)[k]? = .some (0, 0) := by
  unfold shTo
  rw [List.getElem?_map, List.getElem?_range h]
  simp
theorem shTo_len (f : Nat → Int) (n k : Nat) : (shTo f n k).length = n := by simp [shTo]
/-- What Split makes. -/
def split (s : Int) (seed : List Int) (t n : Nat) : List Shr := shTo (fun j : Nat => ev (poly s seed t) ((j : Int) + 1)) n n
end Gm
theorem shCells_set0 : ∀ (l : List Shr) (i : Nat) (a p q : Int), l[i]? = some (p, q) → (shCells l).set (i * 2) (.int .i64 a) = shCells (l.set i (a, q))
  | [], i, _, _, _, h => by simp at h
  | x :: l, 0, a, p, q, h => by
    simp at h; subst h; rfl
  | x :: l, i + 1, a, p, q, h => by
    have := shCells_set0 l i a p q (by simpa using h)
    rw [show (i + 1) * 2 = i * 2 + 1 + 1 by omega]
    show .int .i64 x.1 :: .int .u64 x.2 :: (shCells l).set (i * 2) (.int .i64 a) = _
    rw [this]; rfl
theorem shCells_set1 : ∀ (l : List Shr) (i : Nat) (b p q : Int), l[i]? = some (p, q) → (shCells l).set (i * 2 + 1) (.int .u64 b) = shCells (l.set i (p, b))
  | [], i, _, _, _, h => by simp at h
  | x :: l, 0, b, p, q, h => by
    simp at h; subst h; rfl
  | x :: l, i + 1, b, p, q, h => by
    have := shCells_set1 l i b p q (by simpa using h)
    rw [show (i + 1) * 2 + 1 = i * 2 + 1 + 1 + 1 by omega]
    show .int .i64 x.1 :: .int .u64 x.2 :: (shCells l).set (i * 2 + 1) (.int .u64 b) = _
    rw [this]; rfl
theorem shCells_len : ∀ l : List Shr, (shCells l).length = l.length * 2
  | [] => rfl
  | x :: l => by
    have := shCells_len l
    show (shCells l).length + 1 + 1 = (l.length + 1) * 2
    omega
theorem Shs.of_blk {w : World} {g n : Nat} {l : List Shr} (h : Blk w g 65 (shCells l)) (hn : l.length = n) (hm : n ≤ maxLen) : Shs w (.slice (some ⟨g, 0, none⟩) n n) l := by
  subst hn
  refine ⟨_, _, rfl, Nat.le_refl _, hm, (fun h => by cases h), fun _ => ⟨g, 0, rfl, h.lt, fun i hi => ?_⟩⟩
  obtain ⟨k0, k1⟩ := shCells_get l i hi
  exact ⟨by rw [Nat.zero_add]; exact h.cell _ _ k0, by rw [Nat.zero_add]; exact h.cell _ _ k1⟩
theorem made_shares : ∀ n, n ≤ 7 → (madeCells (Value.agg #[.int .i64 0, .int .u64 0]).cells (n * 2)).toList = shCells (List.replicate n (0, 0))
  | 0, _ => by kernel_rfl
  | 1, _ => by kernel_rfl
  | 2, _ => by kernel_rfl
  | 3, _ => by kernel_rfl
  | 4, _ => by kernel_rfl
  | 5, _ => by kernel_rfl
  | 6, _ => by kernel_rfl
  | 7, _ => by kernel_rfl
  | n + 8, h => absurd h (by omega)
theorem tag_share : Lib.strCells { data := #[115, 104, 97, 114, 101] } = Gm.tShare.map (Value.int .u8) := by kernel_rfl

set_option maxRecDepth 100000 in
set_option maxHeartbeats 2000000 in
theorem Split_yes (s t n : Int) (v : Value) (seed : List Int) (w : World) (h : Row .u8 w v seed) (hl : seed.length ≤ 10000) (s0 : 0 ≤ s) (s1 : s < Gm.R) (t0 : 1 ≤ t) (tn : t ≤ n) (n7 : n ≤ 7) :
    Calls Tryz.prog 50 #[.int .u64 s, .int .i64 t, .int .i64 n, v] w fun e w' => (∃ r, e = .returned (.tuple #[r, .int .i64 0]) ∧ Shs w' r (Gm.split s seed t.toNat n.toNat) ∧ Past w.heap.size r) ∧ Below w.heap.size w w' := by
  obtain ⟨T, rfl⟩ := Int.eq_ofNat_of_zero_le (show 0 ≤ t by omega)
  obtain ⟨N, rfl⟩ := Int.eq_ofNat_of_zero_le (show 0 ≤ n by omega)
  have a1 : ¬ (T : Int) < 1 := by omega
  have a2 : ¬ (N : Int) < (T : Int) := by omega
  have a3 : ¬ (7 : Int) < (N : Int) := by omega
  have hR : Gm.R = 1152921504606845789 := rfl
  have a4 : ¬ (1152921504606845789 : Int) ≤ s := by omega
  have T1 : 1 ≤ T := by omega
  have TN : T ≤ N := by omega
  have N7 : N ≤ 7 := by omega
  obtain ⟨m, hm⟩ : ∃ m, seed.length = m := ⟨_, rfl⟩
  obtain ⟨va, vc, rfl⟩ := h.shape m hm
  obtain ⟨i0, hi, hz0, hz1, hz2⟩ := info_parts info_u64
  obtain ⟨i1, gi, gz0, gz1, gz2⟩ := info_parts info_share
  rw [Int.toNat_natCast, Int.toNat_natCast]
  have cr := fun i => Gm.coef_rng s seed i s0 s1
  obtain ⟨out, hout⟩ : ∃ l, Gm.split s seed T N = l := ⟨_, rfl⟩
  rw [hout]
  have HO := Lib.hid hout
  have HH := Lib.hid h; have HL := Lib.hid hl; have HM := Lib.hid hm; have CR := Lib.hid cr
  clear h hl hm cr tn n7 t0 hout
  go_enter Tryz.func50, Tryz.ntmps50
  go_wp2_with (first
    | (at_make; refine wpList_make_full _ rfl _ _ 138 rfl w.heap.size 25 i0 (.int .u64 0) 1 Tryz.underlying138 hi hz0 hz1 .i64 .i64 T T T rfl rfl rfl rfl (by rw [hz2]; omega) (by unfold maxLen; omega) (Nat.le_refl _) ?_; intro w1 hown hgrow)
    | fail)
  have hPb : Blk w1 w.heap.size 25 ((Gm.upTo (Gm.coef s seed) T 0).map (Value.int .u64)) := by
    have := Blk.of_made hown
    have e : (madeCells (Value.int .u64 0).cells (T * 1)).toList = (Gm.upTo (Gm.coef s seed) T 0).map (Value.int .u64) := by
      rw [Nat.mul_one, Gm.upTo_zero]; show (madeCells #[Value.int .u64 0] T).toList = _
      rw [toList_madeCells_one]; simp
    rw [e] at this; exact this
  have hb1 : Below w.heap.size w w1 := (Below.refl w.heap.size w).grown hgrow (Nat.le_refl _) (fun k e => by cases e)
  have hge := hb1.size
  clear hown hgrow
  go_loopw [36] (fun i wr => ∃ k : Nat, i = .int .i64 k ∧ k ≤ T ∧ Blk wr w.heap.size 25 ((Gm.upTo (Gm.coef s seed) T k).map (Value.int .u64)) ∧ Below w.heap.size w wr) (fun i _ => T - (intOf i).toNat)
  case atStart => exact ⟨0, rfl, Nat.zero_le _, hPb, hb1⟩
  case round =>
    obtain ⟨k, rfl, hk, hB, hb⟩ := hrel
    clear hPb hb1 hge
    have k0 : (0 : Int) ≤ (k : Int) := by omega
    have e1 : IntKind.i64.wrap ((k : Int) + 1) = (k : Int) + 1 := IntWalk.i64_in _ (by omega)
    by_cases hlt : k < T
    · have k1 : (k : Int) < (T : Int) := by omega
      have fr := hB.free k
      obtain ⟨c0, hc0⟩ : ∃ c, ((Gm.upTo (Gm.coef s seed) T k).map (Value.int .u64))[k]? = some c := ⟨_, List.getElem?_eq_getElem (by simp [Gm.upTo]; exact hlt)⟩
      have ce := hB.cell k c0 hc0
      have hB1 := hB.set k (.int .u64 s)
      have hst := Gm.upTo_step (Gm.coef s seed) T k
      have pl := hB.lt
      have hbs : Below w.heap.size w (wr.setCell ⟨w.heap.size, k, none⟩ (.int .u64 s)) := hb.setCell (p := ⟨w.heap.size, k, none⟩) (Nat.le_refl _) _
      by_cases hz : k = 0
      · subst hz
        have HB1 := Lib.hid hB1; have HS := Lib.hid hst; have HBS := Lib.hid hbs
        clear hB hb hB1 hst hbs hc0
        go_wp2_with fail
        go_roundw
        case rel =>
          refine ⟨1, by go_num, by omega, ?_, HBS.out⟩
          have := HB1.out
          rw [← HS.out, List.map_set]
          exact this
        case measure => simp [intOf]; omega
      · have kz : (0 : Int) < (k : Int) := by omega
        obtain ⟨W1, hW1⟩ : ∃ W, wr.setCell ⟨w.heap.size, k, none⟩ (.int .u64 s) = W := ⟨_, rfl⟩
        rw [hW1] at hB1 hbs
        have hk8 : IntKind.u8.wrap (k : Int) = (k : Int) := by rw [IntKind.wrap_u8]; omega
        have rk := Row.lit .u8 W1 5 [(k : Int)] (by unfold maxLen; simp) (fun x hx => by
          obtain rfl := List.mem_singleton.1 hx
          unfold Lit.wf
          rw [Bool.and_eq_true, decide_eq_true_eq, decide_eq_true_eq]
          exact ⟨by show (0 : Int) ≤ k; omega, by show (k : Int) ≤ 255; omega⟩)
        have hrs := (HH.out.below hbs).alloc (.cells #[.int .u8 (k : Int)] 5)
        have r2 := Rws.of2 hrs rk 22
        have S1 := Tagged_any _ Gm.tShare tag_share rfl (bytes_of_all (by decide)) (by decide) _ _ _ r2 (fun i hi => by
          match i, hi with
          | 0, _ => exact HL.out
          | 1, _ => show 1 ≤ 10000; omega) (by show 2 ≤ 50; omega)
        obtain ⟨⟨ra0, ra1⟩, ⟨rb0, rb1⟩, -⟩ := Hm.sum_ok (Sm.tagged Gm.tShare [seed, [(k : Int)]])
        have S2 := fun W => Num_R (Hm.sum (Sm.tagged Gm.tShare [seed, [(k : Int)]])).a (Hm.sum (Sm.tagged Gm.tShare [seed, [(k : Int)]])).b W ra0 (by unfold Fm.P at ra1; omega) rb0 (by unfold Fm.P at rb1; omega)
        have hsz : W1.heap.size = wr.heap.size := by rw [← hW1]; simp
        rw [World.size_alloc, hsz] at S1
        have hcf : Sm.num (Hm.sum (Sm.tagged Gm.tShare [seed, [(k : Int)]])).a (Hm.sum (Sm.tagged Gm.tShare [seed, [(k : Int)]])).b 1152921504606845789 = Gm.coef s seed k := by
          unfold Gm.coef; rw [if_neg hz]; rfl
        rw [hcf] at S2
        obtain ⟨ha, hha⟩ : ∃ x, (Hm.sum (Sm.tagged Gm.tShare [seed, [(k : Int)]])).a = x := ⟨_, rfl⟩
        obtain ⟨hb', hhb⟩ : ∃ x, (Hm.sum (Sm.tagged Gm.tShare [seed, [(k : Int)]])).b = x := ⟨_, rfl⟩
        rw [hha, hhb] at S1 S2
        clear ra0 ra1 rb0 rb1
        obtain ⟨cf, hcf'⟩ : ∃ x, Gm.coef s seed k = x := ⟨_, rfl⟩
        rw [hcf'] at S2 hst
        have hb3 := ((Below.refl W1.heap.size W1).alloc (Nat.le_refl _) (.cells #[.int .u8 (k : Int)] 5)).alloc (by simp) (.cells #[.slice va m vc, .slice (some ⟨wr.heap.size, 0, none⟩) 1 1] 22)
        have HB1 := Lib.hid hB1; have HS := Lib.hid hst; have HBS := Lib.hid hbs; have HW1 := Lib.hid hW1; have HB3 := Lib.hid hb3
        clear hB hb hB1 hst hbs hc0 hhb hha hcf hcf' r2 rk hrs hb3 hW1
        go_wp2_with fail
        rw [HW1.out]
        refine S1.mono ?_; rintro e w2 ⟨rfl, hb2⟩
        have hb4 := HB3.out.trans (hb2.mono HB3.out.size)
        go_wp2_with fail
        refine (S2 _).mono ?_; rintro e w3 ⟨rfl, hb5⟩
        have hb6 := hb4.trans (hb5.mono hb4.size)
        have B6 := HB1.out.below hb6
        have fr6 := B6.free k
        have ce6 := B6.cell k (.int .u64 s) (by rw [List.getElem?_set_self (by simp [Gm.upTo]; exact hlt)])
        have B7 := B6.set k (.int .u64 cf)
        have hb7 : Below w.heap.size w (w3.setCell ⟨w.heap.size, k, none⟩ (.int .u64 cf)) := (HBS.out.trans (hb6.mono HBS.out.size)).setCell (p := ⟨w.heap.size, k, none⟩) (Nat.le_refl _) _
        have p6 := B6.lt
        have HB7 := Lib.hid B7; have HBE := Lib.hid hb7
        clear B6 B7 hb7 hb6 hb5 hb4 hb2 S1 S2
        go_wp2_with fail
        go_roundw
        case rel =>
          refine ⟨k + 1, by go_num, by omega, ?_, HBE.out⟩
          have := HB7.out
          rw [List.set_set] at this
          rw [← HS.out, List.map_set]
          exact this
        case measure => simp [intOf]; omega
    · obtain rfl : k = T := by omega
      rw [Gm.upTo_full] at hB
      obtain ⟨pl, hpl⟩ : ∃ l, (List.range k).map (Gm.coef s seed) = l := ⟨_, rfl⟩
      have hPl : Gm.poly s seed k = pl := hpl
      have pll : pl.length = k := by rw [← hpl]; simp
      have plr : ∀ c ∈ pl, 0 ≤ c ∧ c < Gm.R := fun c hc => by
        rw [← hpl] at hc
        obtain ⟨j, -, rfl⟩ := List.mem_map.1 hc
        exact CR.out j
      rw [hpl] at hB
      have hspl : Gm.split s seed k N = Gm.shTo (fun j : Nat => Gm.ev pl ((j : Int) + 1)) N N := by unfold Gm.split; rw [hPl]
      rw [HO.out] at hspl
      obtain ⟨f, hf⟩ : ∃ f : Nat → Int, f = fun j : Nat => Gm.ev pl ((j : Int) + 1) := ⟨_, rfl⟩
      rw [← hf] at hspl
      have p0 := hb.size
      have plt := hB.lt
      have HB := Lib.hid hB; have HBE := Lib.hid hb; have HPL := Lib.hid pll; have HPR := Lib.hid plr; have HF := Lib.hid hf; have HSP := Lib.hid hspl
      clear hB hb pll plr hf hpl hPl hspl HH HL HM CR
      go_wp2_with (first
        | (at_make; refine wpList_make_full _ rfl _ _ 26 rfl wr.heap.size 65 i1 (.agg #[.int .i64 0, .int .u64 0]) 2 Tryz.underlying26 gi gz0 gz1 .i64 .i64 N N N rfl rfl rfl rfl (by rw [gz2]; omega) (by unfold maxLen; omega) (Nat.le_refl _) ?_; intro w2 hown hgrow)
        | fail)
      have hG : Blk w2 wr.heap.size 65 (shCells (Gm.shTo f N 0)) := by
        have := Blk.of_made hown
        rw [made_shares N N7, ← Gm.shTo_zero f N] at this
        exact this
      have hP2 := HB.out.grown hgrow
      have hb2 : Below w.heap.size w w2 := HBE.out.grown hgrow p0 (fun k e => by cases e)
      obtain ⟨G, hGn⟩ : ∃ G, wr.heap.size = G := ⟨_, rfl⟩
      rw [hGn] at hG plt p0 ⊢
      clear hown hgrow
      go_loopw [60] (fun i wr => ∃ k' : Nat, i = .int .i64 k' ∧ k' ≤ N ∧ Blk wr w.heap.size 25 (pl.map (Value.int .u64)) ∧ Blk wr G 65 (shCells (Gm.shTo f N k')) ∧ Below w.heap.size w wr) (fun i _ => N - (intOf i).toNat)
      case atStart => exact ⟨0, rfl, Nat.zero_le _, hP2, hG, hb2⟩
      case round =>
        obtain ⟨j, rfl, hj, hP, hG', hb'⟩ := hrel
        clear hP2 hG hb2
        have j0 : (0 : Int) ≤ (j : Int) := by omega
        have e1 : IntKind.i64.wrap ((j : Int) + 1) = (j : Int) + 1 := IntWalk.i64_in _ (by omega)
        have e2 : IntKind.u64.wrap ((j : Int) + 1) = (j : Int) + 1 := by rw [IntKind.wrap_u64]; omega
        by_cases hlt : j < N
        · have j1 : (j : Int) < (N : Int) := by omega
          have hat := Gm.shTo_at f N j hlt
          have hlen : (shCells (Gm.shTo f N j)).length = N * 2 := by rw [shCells_len, Gm.shTo_len]
          have g0 := shCells_set0 _ j ((j : Int) + 1) 0 0 hat
          have fr0 := hG'.free (j * 2)
          obtain ⟨c0, hc0⟩ : ∃ c, (shCells (Gm.shTo f N j))[j * 2]? = some c := ⟨_, List.getElem?_eq_getElem (by rw [hlen]; omega)⟩
          have ce0 := hG'.cell (j * 2) c0 hc0
          have B1 := hG'.set (j * 2) (.int .i64 ((j : Int) + 1))
          rw [g0] at B1
          have glt := hG'.lt
          have gne : w.heap.size ≠ G := by omega
          have P1 := hP.other gne (j * 2) (.int .i64 ((j : Int) + 1))
          have hb1 : Below w.heap.size w (wr.setCell ⟨G, j * 2, none⟩ (.int .i64 ((j : Int) + 1))) := hb'.setCell (p := ⟨G, j * 2, none⟩) (by show w.heap.size ≤ G; omega) _
          have HB1 := Lib.hid B1; have HP1 := Lib.hid P1; have Hb1 := Lib.hid hb1; have HL := Lib.hid hlen
          clear g0 hc0 B1 P1 hb1 hP hG' hb' hlen hat
          go_wp2_with fail
          go_loopw [14, 71] (fun pv i wz => ∃ (q : Nat) (o pw : Int), i = .int .i64 q ∧ q ≤ k ∧ pv = .int .u64 pw ∧ (0 ≤ pw ∧ pw < Gm.R) ∧ (0 ≤ o ∧ o < Gm.R) ∧ Gm.evFrom ((j : Int) + 1) (pl.drop q) o pw = f j ∧ Blk wz w.heap.size 25 (pl.map (Value.int .u64)) ∧ Blk wz G 65 (shCells ((Gm.shTo f N j).set j ((j : Int) + 1, o))) ∧ Below w.heap.size w wz) (fun _ i _ => k - (intOf i).toNat)
          case atStart => exact ⟨0, 0, 1, rfl, Nat.zero_le _, rfl, by omega, by omega, by rw [HF.out]; rfl, HP1.out, HB1.out, Hb1.out⟩
          case round =>
            obtain ⟨q, o, pw, rfl, hq, rfl, pwr, orr, hev, hPz, hGz, hbz⟩ := hrel
            have q0 : (0 : Int) ≤ (q : Int) := by omega
            have e3 : IntKind.i64.wrap ((q : Int) + 1) = (q : Int) + 1 := IntWalk.i64_in _ (by omega)
            have hlen' : (shCells ((Gm.shTo f N j).set j ((j : Int) + 1, o))).length = N * 2 := by rw [shCells_len, List.length_set, Gm.shTo_len]
            have hatj : ((Gm.shTo f N j).set j ((j : Int) + 1, o))[j]? = some ((j : Int) + 1, o) := List.getElem?_set_self (by rw [Gm.shTo_len]; exact hlt)
            by_cases hql : q < k
            · have q1 : (q : Int) < (k : Int) := by omega
              have hqp : q < pl.length := by rw [HPL.out]; exact hql
              obtain ⟨c, hc⟩ : ∃ c, pl[q] = c := ⟨_, rfl⟩
              have hcr := HPR.out c (by rw [← hc]; exact List.getElem_mem _)
              have cc := hPz.cell q (.int .u64 c) (by rw [List.getElem?_map, List.getElem?_eq_getElem hqp, hc]; rfl)
              have hd : pl.drop q = c :: pl.drop (q + 1) := by rw [← hc]; exact List.drop_eq_getElem_cons hqp
              rw [hd] at hev
              have hev' : Gm.evFrom ((j : Int) + 1) (pl.drop (q + 1)) (Gm.add Gm.R o (Gm.mul Gm.R c pw)) (Gm.mul Gm.R pw ((j : Int) + 1)) = f j := hev
              have mr := Gm.mul_rng' c pw
              have S1 := fun W => GMulR_any c pw W (by omega) (by omega) (by omega) (by omega)
              obtain ⟨mm, hmm⟩ : ∃ x, Gm.mul Gm.R c pw = x := ⟨_, rfl⟩
              rw [hmm] at S1 mr hev'
              have S2 := fun W => GAddR_any o mm W (by omega) (by omega) (by omega) (by omega)
              have ar : 0 ≤ Gm.add Gm.R o mm ∧ Gm.add Gm.R o mm < Gm.R := Gm.rng Gm.R_pos _
              obtain ⟨ao, hao⟩ : ∃ x, Gm.add Gm.R o mm = x := ⟨_, rfl⟩
              rw [hao] at S2 ar hev'
              have S3 := fun W => GMulR_any pw ((j : Int) + 1) W (by omega) (by omega) (by omega) (by omega)
              have pr := Gm.mul_rng' pw ((j : Int) + 1)
              obtain ⟨np, hnp⟩ : ∃ x, Gm.mul Gm.R pw ((j : Int) + 1) = x := ⟨_, rfl⟩
              rw [hnp] at S3 pr hev'
              have co := hGz.cell (j * 2 + 1) (.int .u64 o) (by
                have := (shCells_get ((Gm.shTo f N j).set j ((j : Int) + 1, o)) j (by rw [List.length_set, Gm.shTo_len]; exact hlt)).2
                rw [hatj] at this
                exact this)
              have g1 := shCells_set1 _ j ao _ _ hatj
              rw [List.set_set] at g1
              have qo := cell_regrown co
              have p1 : ∀ dd os, Calls Tryz.prog 24 #[.int .u64 c, .int .u64 pw] (grow (redrawn wr dd) os) fun e w'' => e = .returned (.int .u64 mm) ∧ ∃ p : Regrown, w'' = grow (redrawn wr p.d) p.os := fun dd os => Calls.regrown_of (S1 _)
              have p2 : ∀ dd os, Calls Tryz.prog 23 #[.int .u64 o, .int .u64 mm] (grow (redrawn wr dd) os) fun e w'' => e = .returned (.int .u64 ao) ∧ ∃ p : Regrown, w'' = grow (redrawn wr p.d) p.os := fun dd os => Calls.regrown_of (S2 _)
              have plz := hPz.lt; have glz := hGz.lt
              have HEV := Lib.hid hev'; have HPz := Lib.hid hPz; have HGz := Lib.hid hGz; have HBz := Lib.hid hbz; have G1 := Lib.hid g1; have HL' := Lib.hid hlen'
              have PR := Lib.hid pr; have AR := Lib.hid ar; have S3h := Lib.hid S3
              clear hev hev' hPz hGz hbz g1 hlen' hatj hnp hao hmm hd hc hcr mr S1 S2 S3 pr ar pwr orr co
              go_wp2_with fail
              refine LastOp.wp_region_below_last14 (by kernel_rfl) (by kernel_rfl) (by kernel_rfl) (by kernel_rfl) (by kernel_rfl) ?_
              repeat (go_big_quiet_step (first | with_reducible exact p1 _ _ | with_reducible exact p2 _ _ | fail))
              refine wpQuiet_nil ?_
              intro _ hw'
              obtain ⟨⟨dq, osq⟩, hw''⟩ := hw'
              subst hw''
              have bq := below_regrown wr dq osq
              obtain ⟨V, hV⟩ : ∃ V, grow (redrawn wr dq) osq = V := ⟨_, rfl⟩
              rw [hV] at bq ⊢
              have GV := HGz.out.below bq
              have PV := HPz.out.below bq
              have frV := GV.free (j * 2 + 1)
              obtain ⟨cV, hcV⟩ : ∃ c, (shCells ((Gm.shTo f N j).set j ((j : Int) + 1, o)))[j * 2 + 1]? = some c := ⟨_, List.getElem?_eq_getElem (by rw [HL'.out]; omega)⟩
              have ceV := GV.cell (j * 2 + 1) cV hcV
              have gV := GV.lt
              have GW := GV.set (j * 2 + 1) (.int .u64 ao)
              rw [G1.out] at GW
              have PW := PV.other gne (j * 2 + 1) (.int .u64 ao)
              have bW : Below w.heap.size w (V.setCell ⟨G, j * 2 + 1, none⟩ (.int .u64 ao)) := (HBz.out.trans (bq.mono HBz.out.size)).setCell (p := ⟨G, j * 2 + 1, none⟩) (by show w.heap.size ≤ G; omega) _
              have HGW := Lib.hid GW; have HPW := Lib.hid PW; have HbW := Lib.hid bW
              clear GV PV GW PW bW bq hcV hV
              go_wp2_with fail
              refine (S3h.out _).mono ?_; rintro e w5 ⟨rfl, hb5⟩
              have g5 := HGW.out.below hb5
              have p5 := HPW.out.below hb5
              have b5 := HbW.out.trans (hb5.mono HbW.out.size)
              have HG5 := Lib.hid g5; have HP5 := Lib.hid p5; have HB5 := Lib.hid b5
              clear g5 p5 b5 hb5
              go_wp2_with fail
              go_roundw
              case rel => exact ⟨q + 1, ao, np, by go_num, by omega, rfl, PR.out, AR.out, HEV.out, HP5.out, HG5.out, HB5.out⟩
              case measure => simp [intOf]; omega
            · obtain rfl : q = k := by omega
              rw [← HPL.out, List.drop_length] at hev
              have ho : o = f j := hev
              subst ho
              rw [Gm.shTo_step] at hGz
              have HPz := Lib.hid hPz; have HGz := Lib.hid hGz; have HBz := Lib.hid hbz
              clear hPz hGz hbz hatj hlen' hev
              go_wp2_with fail
              go_roundw
              case rel => exact ⟨j + 1, by go_num, by omega, HPz.out, HGz.out, HBz.out⟩
              case measure => simp [intOf]; omega
        · obtain rfl : j = N := by omega
          have hs := Shs.of_blk hG' (Gm.shTo_len f j j) (by unfold maxLen; omega)
          rw [← HSP.out] at hs
          have HS := Lib.hid hs; have Hb := Lib.hid hb'
          clear hs hb' hG' hP
          go_wp2_with fail
          go_ret2
          exact ⟨⟨_, rfl, HS.out, fun b o l c e => by cases e; exact p0⟩, Hb.out⟩

end Go.Proofs.YtlaidjgdipacgaaGreatDoor
