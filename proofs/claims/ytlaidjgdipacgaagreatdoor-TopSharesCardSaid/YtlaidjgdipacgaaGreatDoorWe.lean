/-
  The texts Uf Ug Uh Ui in one. (Merged by wip/lay12m.py.)
-/
import Derived.Test.YtlaidjgdipacgaaGreatDoorUe
import Derived.Maps.AppendAt
import Derived.Deep.AppendLies
import Derived.Maps.Own
import Derived.Maps.Views
import Derived.Lib.QuietBelow
import Derived.BigQuiet

section
namespace Go.Proofs.YtlaidjgdipacgaaGreatDoor
open Go.RowKit

theorem info_share : (Tryz.prog.info? 65).map (fun i => (i.zero, i.size, i.bytes)) = some (some (.agg #[.int .i64 0, .int .u64 0]), 2, 16) := by kernel_rfl
abbrev Shr := Int × Int
def shNo : Shr := (0, 0)
/-- A slice of shares: whose each is, and its number. -/
def Shs (w : World) (v : Value) (l : List Shr) : Prop :=
  ∃ a cap, v = .slice a l.length cap ∧ l.length ≤ cap ∧ cap ≤ maxLen ∧ (a = none → cap = 0) ∧
    (l ≠ [] → ∃ b off, a = some ⟨b, off, none⟩ ∧ b < w.heap.size ∧ ∀ i, i < l.length → w.cell? ⟨b, off + i * 2, none⟩ = some (.int .i64 (l[i]?.getD shNo).1) ∧ w.cell? ⟨b, off + i * 2 + 1, none⟩ = some (.int .u64 (l[i]?.getD shNo).2))
theorem Shs.below {w w' : World} {v : Value} {l : List Shr} (h : Shs w v l) (hb : Below w.heap.size w w') : Shs w' v l := by
  obtain ⟨a, cap, h1, h2, h3, h0, h5⟩ := h
  refine ⟨a, cap, h1, h2, h3, h0, fun hne => ?_⟩
  obtain ⟨b, off, e, hlt, hc⟩ := h5 hne
  refine ⟨b, off, e, Nat.lt_of_lt_of_le hlt hb.size, fun i hi => ?_⟩
  obtain ⟨k0, k1⟩ := hc i hi
  exact ⟨(hb.cell (p := ⟨b, _, none⟩) hlt).trans k0, (hb.cell (p := ⟨b, _, none⟩) hlt).trans k1⟩
theorem Shs.nil (w : World) : Shs w (.slice none 0 0) [] := ⟨none, 0, rfl, Nat.le_refl _, Nat.zero_le _, fun _ => rfl, fun h => absurd rfl h⟩
theorem Shs.shape {w : World} {v : Value} {l : List Shr} (h : Shs w v l) : ∃ a c, v = .slice a l.length c := by
  obtain ⟨a, c, e, -⟩ := h
  exact ⟨a, c, e⟩
/-- Its cells, one behind the other. -/
def shCells (l : List Shr) : List Value := l.flatMap fun x => [.int .i64 x.1, .int .u64 x.2]
theorem shCells_snoc (l : List Shr) (x : Shr) : shCells (l ++ [x]) = shCells l ++ [.int .i64 x.1, .int .u64 x.2] := by simp [shCells]
theorem shCells_get : ∀ (l : List Shr) (i : Nat), i < l.length → (shCells l)[i * 2]? = some (.int .i64 (l[i]?.getD shNo).1) ∧ (shCells l)[i * 2 + 1]? = some (.int .u64 (l[i]?.getD shNo).2)
  | [], i, h => by simp at h
  | x :: l, 0, _ => ⟨rfl, rfl⟩
  | x :: l, i + 1, h => by
    have := shCells_get l i (by simpa using h)
    have e : shCells (x :: l) = .int .i64 x.1 :: .int .u64 x.2 :: shCells l := rfl
    rw [e, show (i + 1) * 2 = i * 2 + 1 + 1 by omega]
    simpa using this
theorem Shs.of_owns {w : World} {base : Nat} {v : Value} {l : List Shr} (h : w.ownsRow base 65 2 v l.length (shCells l)) : Shs w v l := by
  rcases h.2 with ⟨rfl, h0⟩ | ⟨g, cap, cur, rfl, hg, hh, hn, hm, hs, ht⟩
  · have : l = [] := List.length_eq_zero_iff.1 h0
    subst this; exact Shs.nil w
  · refine ⟨_, cap, rfl, hn, hm, (fun h => by cases h), fun _ => ⟨g, 0, rfl, (Array.getElem?_eq_some_iff.1 hh).1, fun i hi => ?_⟩⟩
    obtain ⟨k0, k1⟩ := shCells_get l i hi
    have cell : ∀ (k : Nat) (u : Value), (shCells l)[k]? = some u → w.cell? ⟨g, 0 + k, none⟩ = some u := fun k u hu => by
      have := h.cells (g := g) rfl k u hu
      rw [addr_add] at this
      exact this
    exact ⟨cell _ _ k0, by rw [Nat.add_assoc]; exact cell _ _ k1⟩
/-- The i-th. -/
theorem Shs.at {w : World} {a : Option Addr} {n c : Nat} {l : List Shr} (h : Shs w (.slice a n c) l) (i : Nat) (hi : i < l.length) : ∃ b o, a = some ⟨b, o, none⟩ ∧ b < w.heap.size ∧
    w.cell? ⟨b, o + i * 2, none⟩ = some (.int .i64 (l[i]?.getD shNo).1) ∧ w.cell? ⟨b, o + i * 2 + 1, none⟩ = some (.int .u64 (l[i]?.getD shNo).2) := by
  obtain ⟨_, _, e, -, -, -, h4⟩ := h
  cases e
  obtain ⟨b, o, rfl, hlt, hc⟩ := h4 (by rintro rfl; simp at hi)
  exact ⟨b, o, rfl, hlt, hc i hi⟩

theorem cells_new2 (w : World) (x y : Value) (t : TypeId) : ∀ j u, ([x, y] : List Value)[j]? = some u → (w.alloc (.cells #[x, y] t)).cell? ((⟨w.heap.size, 0, none⟩ : Addr).add j) = some u :=
  fun j u h => World.news_of_block (Duo.new w t x y) j u h
theorem i64_wf {x : Int} (h0 : -9223372036854775808 ≤ x) (h1 : x ≤ 9223372036854775807) : (Lit.int .i64 x).wf = true := by
  unfold Lit.wf
  rw [Bool.and_eq_true, decide_eq_true_eq, decide_eq_true_eq]
  exact ⟨h0, h1⟩
theorem id_any (i x : Int) (w : World) : Calls Tryz.prog 22 #[.agg #[.int .i64 i, .int .u64 x]] w fun e w' => e = .returned (.int .i64 i) ∧ Below w.heap.size w w' := by
  go_enter Tryz.func22, Tryz.ntmps22
  go_wp2
  go_ret
  exact ⟨rfl, (Below.refl _ _).alloc (Nat.le_refl _) _⟩

set_option maxRecDepth 100000 in
set_option maxHeartbeats 2000000 in
theorem mapI_any (v : Value) (l : List Shr) (w : World) (h : Shs w v l) (hl : l.length ≤ 1000) (hi : ∀ p ∈ l, 0 ≤ p.1 ∧ p.1 ≤ 1000000) :
    Calls Tryz.prog 21 #[v, .func (.func 22) #[] #[]] w fun e w' => (∃ r, e = .returned r ∧ Row .i64 w' r (l.map (·.1))) ∧ Below w.heap.size w w' := by
  obtain ⟨a, c, rfl⟩ := h.shape
  obtain ⟨n, hn⟩ : ∃ n, l.length = n := ⟨_, rfl⟩
  obtain ⟨i0, gi, gz0, gz1, gz2⟩ := info_parts info_i64
  have own0 := owns_empty' w w.heap.size 3 w.heap.size (Nat.le_refl _) rfl
  have hb0 := (Below.refl w.heap.size w).alloc (Nat.le_refl _) (.cells #[] 3)
  rw [hn] at hl ⊢
  have HH := Lib.hid h; have HN := Lib.hid hn; have HI := Lib.hid hi
  clear h hn hi
  go_enter Tryz.func21, Tryz.ntmps21
  go_wp2_with fail
  go_loopw [5, 11] (fun o i wr => ∃ k : Nat, i = .int .i64 k ∧ k ≤ n ∧ wr.ownsRow w.heap.size 3 1 o k (((l.take k).map (·.1)).map (Value.int .i64)) ∧ Below w.heap.size w wr) (fun _ i _ => n - (intOf i).toNat)
  case atStart => exact ⟨0, rfl, Nat.zero_le _, own0, hb0⟩
  case round =>
    obtain ⟨k, rfl, hk, ho, hb⟩ := hrel
    clear own0 hb0
    have k0 : (0 : Int) ≤ (k : Int) := by omega
    have e1 : IntKind.i64.wrap ((k : Int) + 1) = (k : Int) + 1 := IntWalk.i64_in _ (by omega)
    by_cases hlt : k < n
    · have k1 : (k : Int) < (n : Int) := by omega
      have hkl : k < l.length := by rw [HN.out]; exact hlt
      have hs := HH.out.below hb
      rw [HN.out] at hs
      obtain ⟨b, o, rfl, hbl, y0, y1⟩ := hs.at k hkl
      obtain ⟨p, hp⟩ : ∃ p, l[k]?.getD shNo = p := ⟨_, rfl⟩
      rw [hp] at y0 y1
      obtain ⟨pi, px⟩ := p
      dsimp only at y0 y1
      obtain ⟨oa, on, oc, rfl⟩ := owns_slice ho
      have HO := Lib.hid ho; have HB := Lib.hid hb; have HP := Lib.hid hp
      clear ho hb hp hs
      go_wp2_with fail
      refine (id_any pi px _).mono ?_; rintro e w1 ⟨rfl, hb1⟩
      have hb1' : Below wr.heap.size wr w1 := ((Below.refl wr.heap.size wr).alloc (Nat.le_refl _) _).trans (hb1.mono (by simp))
      have ho1 := owns_below HO.out hb1'
      go_wp2_with (first
        | (at_builtin
           refine wpList_append_own _ rfl (.tmp 15) (.tmp 19) 23 rfl w.heap.size 3 i0 (.int .i64 0) 1 8 Tryz.underlying23 gi gz0 gz1 gz2 rfl (by decide) _ _ _ rfl (ho1.alloc _) ⟨w1.heap.size, 0, none⟩ 1 1 [.int .i64 pi] rfl rfl (cell_one_new _ _ _) (by simp [Value.oneCell']) (by unfold maxLen; omega) (by omega) (by have := HB.out.size; have := hb1'.size; simp; omega) ?_
           intro v' w2 hown' hgrow _)
        | fail)
      go_roundw
      case rel =>
        refine ⟨k + 1, by go_num, by omega, ?_, ?_⟩
        · rw [List.take_add_one, List.getElem?_eq_getElem hkl]
          have e : l[k] = (pi, px) := by have := HP.out; rw [List.getElem?_eq_getElem hkl] at this; exact this
          rw [e]
          simpa using hown'
        · exact ((HB.out.trans (hb1'.mono HB.out.size)).alloc (by have := HB.out.size; have := hb1'.size; omega) _).grown hgrow (by have := HB.out.size; have := hb1'.size; simp; omega) (fun k e => own_above HO.out e)
      case measure => simp [intOf]; omega
    · obtain rfl : k = n := by omega
      rw [← HN.out, List.take_length] at ho
      have hr : Row .i64 wr _ (l.map (·.1)) := Row.owned64 (by rw [List.length_map]; exact ho) (fun x hx => by
        obtain ⟨p, hp, rfl⟩ := List.mem_map.1 hx
        have := HI.out p hp
        exact i64_wf (by omega) (by omega))
      have HR := Lib.hid hr
      clear ho hr
      go_wp2_with fail
      go_ret
      exact ⟨⟨_, rfl, HR.out⟩, hb⟩

theorem past_own {w : World} {base : Nat} {e : TypeId} {size n : Nat} {v : Value} {xs : List Value} (h : w.ownsRow base e size v n xs) : Past base v := fun b o k c e => own_above h (by rw [e]; rfl)
/-- The public share. -/
def pubS (p : Shr) : Shr := (p.1, Gm.base p.2)
set_option maxRecDepth 100000 in
set_option maxHeartbeats 2000000 in
theorem Public1_any (i x : Int) (w : World) (h0 : 0 ≤ x) (h1 : x < 18446744073709551616) :
    Calls Tryz.prog 88 #[.agg #[.int .i64 i, .int .u64 x]] w fun e w' => e = .returned (.agg #[.int .i64 i, .int .u64 (Gm.base x)]) ∧ Below w.heap.size w w' := by
  obtain ⟨B, hB⟩ : ∃ B, w.heap.size = B := ⟨_, rfl⟩
  have q0 := (Duo.new w 65 (.int .i64 i) (.int .u64 x)).alloc (.cells #[.int .i64 0, .int .u64 0] 65)
  have q1 := Duo.new (w.alloc (.cells #[.int .i64 i, .int .u64 x] 65)) 65 (.int .i64 0) (.int .u64 0)
  have hb0 := ((Below.refl w.heap.size w).alloc (Nat.le_refl _) (.cells #[.int .i64 i, .int .u64 x] 65)).alloc (by simp) (.cells #[.int .i64 0, .int .u64 0] 65)
  rw [World.size_alloc] at q1
  obtain ⟨W, hW⟩ : ∃ W, (w.alloc (.cells #[.int .i64 i, .int .u64 x] 65)).alloc (.cells #[.int .i64 0, .int .u64 0] 65) = W := ⟨_, rfl⟩
  rw [hW] at q0 q1 hb0
  rw [hB] at q0 q1
  have S := fun W => Base_any x W h0 h1
  obtain ⟨g, hg⟩ : ∃ g, Gm.base x = g := ⟨_, rfl⟩
  rw [hg] at S ⊢
  have Q0 := Lib.hid q0; have Q1 := Lib.hid q1; have HB0 := Lib.hid hb0; have HW := Lib.hid hW; have HB := Lib.hid hB
  have c0 := q0.cell0; have c1 := q0.cell1; have lt := q0.lt
  clear q0 q1 hb0 hW hB hg
  go_enter Tryz.func88, Tryz.ntmps88
  go_wp2_with fail
  rw [HW.out, HB.out]
  (try go_wp2_with fail)
  go_region_held3 (fun w' => w'.cell? ⟨B, 0, none⟩ = some (.int .i64 i) ∧ w'.cell? ⟨B, 1, none⟩ = some (.int .u64 x)) (first | go_keep | (refine ⟨?_, ?_⟩ <;> assumption)) (first
    | (go_at_call 26; refine (S _).mono ?_; rintro e w4 ⟨rfl, hb4⟩; have H4 := Lib.hid ((Below.refl _ W).drew.trans hb4); have d4 := Q0.out.stp H4.out; have x0 := d4.cell0; have x1 := d4.cell1; have d5 := Q1.out.stp H4.out; have y0 := d5.cell0; have y1 := d5.cell1; have l5 := d5.lt; have f0 := d5.free 0; have f1 := d5.free 1; have D5 := Lib.hid d5)
    | fail)
  all_goals
    go_wp2_with fail
    refine bodyPost_ret (results_cell_row (p := 2) (ty := 65) rfl _ _ (B + 1) _ _ _ _ rfl ((D5.out.set0 (.int .i64 i)).set1 (.int .u64 g)) rfl rfl rfl) rfl ⟨rfl, ?_⟩
    have q := HB0.out.trans (H4.out.mono HB0.out.size)
    exact (q.setCell (by rw [HB.out]; exact Nat.le_succ _) _).setCell (by rw [HB.out]; exact Nat.le_succ _) _

set_option maxRecDepth 100000 in
set_option maxHeartbeats 2000000 in
theorem mapS_any (v : Value) (l : List Shr) (w : World) (h : Shs w v l) (hl : l.length ≤ 1000) (hi : ∀ p ∈ l, 0 ≤ p.2 ∧ p.2 < Gm.R) :
    Calls Tryz.prog 87 #[v, .func (.func 88) #[] #[]] w fun e w' => (∃ r, e = .returned r ∧ Shs w' r (l.map pubS) ∧ Past w.heap.size r) ∧ Below w.heap.size w w' := by
  obtain ⟨a, c, rfl⟩ := h.shape
  obtain ⟨n, hn⟩ : ∃ n, l.length = n := ⟨_, rfl⟩
  obtain ⟨i0, gi, gz0, gz1, gz2⟩ := info_parts info_share
  have own0 : (w.alloc (.cells #[] 65)).ownsRow w.heap.size 65 2 (.slice (some ⟨w.heap.size, 0, none⟩) 0 0) 0 [] := World.ownsRow_made w #[] 0 (Nat.le_refl _) (Nat.zero_le _) rfl
  have hb0 := (Below.refl w.heap.size w).alloc (Nat.le_refl _) (.cells #[] 65)
  have hR : Gm.R = 1152921504606845789 := rfl
  rw [hn] at hl ⊢
  have HH := Lib.hid h; have HN := Lib.hid hn; have HI := Lib.hid hi
  clear h hn hi
  go_enter Tryz.func87, Tryz.ntmps87
  go_wp2_with fail
  go_loopw [5, 11] (fun o i wr => ∃ k : Nat, i = .int .i64 k ∧ k ≤ n ∧ wr.ownsRow w.heap.size 65 2 o k (shCells ((l.take k).map pubS)) ∧ Below w.heap.size w wr) (fun _ i _ => n - (intOf i).toNat)
  case atStart => exact ⟨0, rfl, Nat.zero_le _, own0, hb0⟩
  case round =>
    obtain ⟨k, rfl, hk, ho, hb⟩ := hrel
    clear own0 hb0
    have k0 : (0 : Int) ≤ (k : Int) := by omega
    have e1 : IntKind.i64.wrap ((k : Int) + 1) = (k : Int) + 1 := IntWalk.i64_in _ (by omega)
    by_cases hlt : k < n
    · have k1 : (k : Int) < (n : Int) := by omega
      have hkl : k < l.length := by rw [HN.out]; exact hlt
      have hs := HH.out.below hb
      rw [HN.out] at hs
      obtain ⟨b, o, rfl, hbl, y0, y1⟩ := hs.at k hkl
      obtain ⟨p, hp⟩ : ∃ p, l[k]?.getD shNo = p := ⟨_, rfl⟩
      have hpr := HI.out p (by rw [← hp, List.getElem?_eq_getElem hkl]; exact List.getElem_mem _)
      rw [hp] at y0 y1
      obtain ⟨pi, px⟩ := p
      dsimp only at y0 y1 hpr
      have S := fun W => Public1_any pi px W (by omega) (by omega)
      obtain ⟨oa, on, oc, rfl⟩ := owns_slice ho
      have HO := Lib.hid ho; have HB := Lib.hid hb; have HP := Lib.hid hp
      obtain ⟨g, hg⟩ : ∃ g, Gm.base px = g := ⟨_, rfl⟩
      have HG := Lib.hid hg
      rw [hg] at S
      clear ho hb hp hs hg hpr
      go_wp2_with fail
      refine (S _).mono ?_; rintro e w1 ⟨rfl, hb1⟩
      have hb1' : Below wr.heap.size wr w1 := ((Below.refl wr.heap.size wr).alloc (Nat.le_refl _) _).trans (hb1.mono (by simp))
      have ho1 := owns_below HO.out hb1'
      go_wp2_with (first
        | (at_builtin
           refine wpList_append_own _ rfl (.tmp 15) (.tmp 19) 26 rfl w.heap.size 65 i0 (.agg #[.int .i64 0, .int .u64 0]) 2 16 Tryz.underlying26 gi gz0 gz1 gz2 rfl (by decide) _ _ _ rfl (ho1.alloc _) ⟨w1.heap.size, 0, none⟩ 1 1 [.int .i64 pi, .int .u64 g] rfl rfl (cells_new2 w1 _ _ _) (by intro u hu; simp at hu; rcases hu with rfl | rfl <;> rfl) (by unfold maxLen; omega) (by omega) (by have := HB.out.size; have := hb1'.size; simp; omega) ?_
           intro v' w2 hown' hgrow _)
        | fail)
      go_roundw
      case rel =>
        refine ⟨k + 1, by go_num, by omega, ?_, ?_⟩
        · rw [List.take_add_one, List.getElem?_eq_getElem hkl]
          have e : l[k] = (pi, px) := by have := HP.out; rw [List.getElem?_eq_getElem hkl] at this; exact this
          rw [e]
          have e2 : (List.take k l ++ (some ((pi, px) : Shr)).toList).map pubS = (l.take k).map pubS ++ [(pi, g)] := by rw [← HG.out]; simp [pubS]
          rw [e2, shCells_snoc]
          exact hown'
        · exact ((HB.out.trans (hb1'.mono HB.out.size)).alloc (by have := HB.out.size; have := hb1'.size; omega) _).grown hgrow (by have := HB.out.size; have := hb1'.size; simp; omega) (fun k e => own_above HO.out e)
      case measure => simp [intOf]; omega
    · obtain rfl : k = n := by omega
      rw [← HN.out, List.take_length] at ho
      have hr : Shs wr _ (l.map pubS) := Shs.of_owns (by rw [List.length_map]; exact ho)
      have hpa := past_own ho
      have HR := Lib.hid hr; have HPA := Lib.hid hpa
      clear ho hr hpa
      go_wp2_with fail
      go_ret
      exact ⟨⟨_, rfl, HR.out, HPA.out⟩, hb⟩

theorem weights_any (a : Option Addr) (n c : Nat) (x : Int) (w : World) :
    Calls Tryz.prog 20 #[.slice a n c, .int .u64 x] w fun e w' => e = .returned (.func (.func 52) #[] #[.pointer (some ⟨w.heap.size, 0, none⟩), .pointer (some ⟨w.heap.size + 1, 0, none⟩)]) ∧ w' = (w.alloc (.cells #[.slice a n c] 23)).alloc (.cells #[.int .u64 x] 25) := by
  go_enter Tryz.func20, Tryz.ntmps20
  go_wp2
  go_ret
  exact ⟨rfl, rfl⟩
end Go.Proofs.YtlaidjgdipacgaaGreatDoor
end

section
namespace Go.Proofs.YtlaidjgdipacgaaGreatDoor
open Go.RowKit

namespace Gm
theorem above_snoc (ids : List Int) (x id k : Int) : above (ids ++ [k]) x id = if k = id then above ids x id else mul R (above ids x id) (sub x k) := by
  unfold above; rw [List.foldl_append]; rfl
theorem mul_rng' (a b : Int) : 0 ≤ mul R a b ∧ mul R a b < R := rng R_pos _
theorem above_rng (x id : Int) : ∀ ids : List Int, 0 ≤ above ids x id ∧ above ids x id < R := by
  intro ids
  have h : ∀ n, ∀ ids : List Int, ids.length = n → 0 ≤ above ids x id ∧ above ids x id < R := by
    intro n
    induction n with
    | zero =>
      intro ids h
      obtain rfl := List.length_eq_zero_iff.1 h
      exact ⟨(by decide : (0 : Int) ≤ 1), (by decide : (1 : Int) < R)⟩
    | succ n ih =>
      intro ids h
      have hne : ids ≠ [] := by rintro rfl; simp at h
      rw [← List.dropLast_concat_getLast hne, above_snoc]
      split
      · exact ih _ (by simp [h])
      · exact mul_rng' _ _
  exact h _ ids rfl
theorem sub_rng (x k : Int) : 0 ≤ sub x k ∧ sub x k < R := rng R_pos _
theorem invN_rng (b : Int) : 0 ≤ invN b ∧ invN b < R := by
  unfold invN
  rw [Pr.powmod_eq RN 60 b.toNat (RN - 2) (by decide)]
  have : b.toNat ^ (RN - 2) % RN < RN := Nat.mod_lt _ (by decide)
  rw [R_cast]
  omega
theorem inv_is {z b : Int} (h0 : 0 ≤ z) (h1 : z < R) (h : mul R z b = 1) (hi : mul R (invN b) b = 1) : z = invN b := by
  have := inv_unique h hi
  rw [Int.emod_eq_of_lt h0 h1, Int.emod_eq_of_lt (invN_rng b).1 (invN_rng b).2] at this
  exact this
end Gm

set_option maxRecDepth 100000 in
set_option maxHeartbeats 2000000 in
theorem wgt_any (ids : List Int) (x id : Int) (B : Nat) (v : Value) (w : World) (hB : Boxed w B 23 v) (hX : Boxed w (B + 1) 25 (.int .u64 x)) (hr : Row .i64 w v ids) (hl : ids.length ≤ 7) (hi : ∀ k ∈ ids, 1 ≤ k ∧ k ≤ 7) (hid : 1 ≤ id ∧ id ≤ 7) (hx : 0 ≤ x ∧ x ≤ 7)
    (hinv : Gm.mul Gm.R (Gm.invN (Gm.above ids id id)) (Gm.above ids id id) = 1) :
    Calls Tryz.prog 52 #[.int .i64 id, .pointer (some ⟨B, 0, none⟩), .pointer (some ⟨B + 1, 0, none⟩)] w fun e w' => e = .returned (.int .u64 (Gm.weight ids x id)) ∧ Below w.heap.size w w' := by
  obtain ⟨n, hn⟩ : ∃ n, ids.length = n := ⟨_, rfl⟩
  obtain ⟨a, c, rfl⟩ := hr.shape n hn
  have hR : Gm.R = 1152921504606845789 := rfl
  have cB := hB.cell; have cX := hX.cell; have lX := hX.lt
  have eid : IntKind.u64.wrap id = id := by rw [IntKind.wrap_u64]; omega
  have HR := Lib.hid hr; have HN := Lib.hid hn; have HI := Lib.hid hi; have HInv := Lib.hid hinv
  have ai : ∀ ids, 0 ≤ Gm.above ids x id ∧ Gm.above ids x id < Gm.R := Gm.above_rng x id
  have bi : ∀ ids, 0 ≤ Gm.above ids id id ∧ Gm.above ids id id < Gm.R := Gm.above_rng id id
  have AI := Lib.hid ai; have BI := Lib.hid bi
  obtain ⟨t, ht⟩ : ∃ t, Gm.weight ids x id = t := ⟨_, rfl⟩
  rw [ht]
  have HT := Lib.hid ht
  clear ht
  rw [hn] at hl
  clear hr hn hi hinv ai bi hB hX
  go_enter Tryz.func52, Tryz.ntmps52
  go_wp2_with fail
  go_loopw [5, 6, 13] (fun p q i wr => ∃ k : Nat, i = .int .i64 k ∧ k ≤ n ∧ p = .int .u64 (Gm.above (ids.take k) x id) ∧ q = .int .u64 (Gm.above (ids.take k) id id) ∧ Below w.heap.size w wr) (fun _ _ i _ => n - (intOf i).toNat)
  case atStart => exact ⟨0, rfl, Nat.zero_le _, rfl, rfl, Below.refl _ _⟩
  case round =>
    obtain ⟨k, rfl, hk, rfl, rfl, hb⟩ := hrel
    have k0 : (0 : Int) ≤ (k : Int) := by omega
    have e1 : IntKind.i64.wrap ((k : Int) + 1) = (k : Int) + 1 := IntWalk.i64_in _ (by omega)
    by_cases hlt : k < n
    · have k1 : (k : Int) < (n : Int) := by omega
      have hkl : k < ids.length := by rw [HN.out]; exact hlt
      obtain ⟨_, _, e', -, -, -, -, hc⟩ := HR.out
      cases e'
      obtain ⟨b, o, rfl, hbl, hcell⟩ := hc (by rintro rfl; simp at hkl)
      have y := (hb.cell (p := ⟨b, o + k, none⟩) hbl).trans (hcell k hkl)
      obtain ⟨j, hj⟩ : ∃ j, ids[k]?.getD 0 = j := ⟨_, rfl⟩
      rw [hj] at y
      have hjm : j ∈ ids := by rw [← hj, List.getElem?_eq_getElem hkl]; exact List.getElem_mem _
      have hjr := HI.out j hjm
      have htk : ids.take (k + 1) = ids.take k ++ [j] := by
        rw [List.take_add_one, List.getElem?_eq_getElem hkl]
        rw [List.getElem?_eq_getElem hkl] at hj
        rw [← hj]; rfl
      have cX' := (hb.cell (p := ⟨B + 1, 0, none⟩) lX).trans cX
      have hblr : b < wr.heap.size := Nat.lt_of_lt_of_le hbl hb.size
      have ej : IntKind.u64.wrap j = j := by rw [IntKind.wrap_u64]; omega
      have pr := AI.out (ids.take k); have qr := BI.out (ids.take k)
      have s1 := Gm.above_snoc (ids.take k) x id j; have s2 := Gm.above_snoc (ids.take k) id id j
      rw [← htk] at s1 s2
      obtain ⟨p, hp⟩ : ∃ p, Gm.above (ids.take k) x id = p := ⟨_, rfl⟩
      obtain ⟨q, hq⟩ : ∃ q, Gm.above (ids.take k) id id = q := ⟨_, rfl⟩
      rw [hp] at s1 pr; rw [hq] at s2 qr
      rw [hp, hq]
      have HTk := Lib.hid htk
      by_cases he : j = id
      · rw [if_pos he] at s1 s2
        have S1 := Lib.hid s1; have S2 := Lib.hid s2
        clear s1 s2 hc hcell hj hjm hp hq htk
        go_wp2_with fail
        go_roundw
        case rel => exact ⟨k + 1, by go_num, by omega, by rw [S1.out], by rw [S2.out], hb⟩
        case measure => simp [intOf]; omega
      · rw [if_neg he] at s1 s2
        have u1 := Gm.sub_rng x j; have u2 := Gm.sub_rng id j
        have U1 := fun W => GSubR_any x j W (by omega) (by omega) (by omega) (by omega)
        have U2 := fun W => GSubR_any id j W (by omega) (by omega) (by omega) (by omega)
        obtain ⟨d1, hd1⟩ : ∃ d, Gm.sub x j = d := ⟨_, rfl⟩
        obtain ⟨d2, hd2⟩ : ∃ d, Gm.sub id j = d := ⟨_, rfl⟩
        rw [hd1] at u1 U1 s1
        rw [hd2] at u2 U2 s2
        have M1 := fun W => GMulR_any p d1 W (by omega) (by omega) (by omega) (by omega)
        have M2 := fun W => GMulR_any q d2 W (by omega) (by omega) (by omega) (by omega)
        rw [← s1] at M1
        rw [← s2] at M2
        have HB := Lib.hid hb
        clear s1 s2 hc hcell hj hjm hp hq htk hd1 hd2 hb
        go_wp2_with fail
        refine (U1 _).mono ?_; rintro e w1 ⟨rfl, hb1⟩
        go_wp2_with fail
        refine (M1 _).mono ?_; rintro e w2 ⟨rfl, hb2⟩
        go_wp2_with fail
        refine (U2 _).mono ?_; rintro e w3 ⟨rfl, hb3⟩
        go_wp2_with fail
        refine (M2 _).mono ?_; rintro e w4 ⟨rfl, hb4⟩
        go_wp2_with fail
        go_roundw
        case rel =>
          have q1 := HB.out.trans (hb1.mono HB.out.size)
          have q2 := q1.trans (hb2.mono q1.size)
          have q3 := q2.trans (hb3.mono q2.size)
          exact ⟨k + 1, by go_num, by omega, rfl, rfl, q3.trans (hb4.mono q3.size)⟩
        case measure => simp [intOf]; omega
    · obtain rfl : k = n := by omega
      rw [← HN.out, List.take_length]
      have hI := fun W => InvR_any (Gm.above ids id id) (Gm.invN (Gm.above ids id id)) W (BI.out ids).1 (by have := (BI.out ids).2; omega) HInv.out
      have ar := AI.out ids
      have hw : Gm.mul Gm.R (Gm.above ids x id) (Gm.invN (Gm.above ids id id)) = Gm.weight ids x id := rfl
      have ir := Gm.invN_rng (Gm.above ids id id)
      obtain ⟨p, hp⟩ : ∃ p, Gm.above ids x id = p := ⟨_, rfl⟩
      obtain ⟨q, hq⟩ : ∃ q, Gm.above ids id id = q := ⟨_, rfl⟩
      have hinv := HInv.out
      rw [hq] at hinv hI hw ir
      rw [hp] at hw ar
      obtain ⟨z, hz⟩ : ∃ z, Gm.invN q = z := ⟨_, rfl⟩
      have huni : ∀ z', 0 ≤ z' → z' < Gm.R → Gm.mul Gm.R z' q = 1 → z' = z := fun z' h0 h1 h2 => by rw [← hz]; exact Gm.inv_is h0 h1 h2 hinv
      rw [hz] at hw ir
      have M := fun W => GMulR_any p z W (by omega) (by omega) (by omega) (by omega)
      rw [hw] at M
      rw [hp, hq]
      rw [HT.out] at M
      have HU := Lib.hid huni; have HB := Lib.hid hb
      clear hinv hz hp hq hw huni hb
      go_wp2_with fail
      refine (hI _).mono ?_; rintro e w1 ⟨⟨z', rfl, z0, z1, z2⟩, hb1⟩
      obtain rfl := HU.out z' z0 z1 z2
      clear z0 z1 z2 hI
      go_wp2_with fail
      refine (M _).mono ?_; rintro e w2 ⟨rfl, hb2⟩
      go_wp2_with fail
      go_ret
      have q1 := HB.out.trans (hb1.mono HB.out.size)
      exact ⟨rfl, q1.trans (hb2.mono q1.size)⟩
end Go.Proofs.YtlaidjgdipacgaaGreatDoor
end

section
namespace Go.Proofs.YtlaidjgdipacgaaGreatDoor
open Go.RowKit Go.Maps

theorem plainBool_inv {P : Program} {e : TypeId} {v : Value} {z : DataW Nat × List MemPlace} (he : P.underlying e = some .bool) (h : plainElem P e v = some z) : ∃ x, v = .bool x ∧ z = (.lit (.bool x), []) := by
  unfold plainElem at h
  rw [he] at h
  cases v <;> simp at h
  exact ⟨_, rfl, h.symm⟩

theorem zeroBool (w : World) : (zeroValue 4).run Tryz.prog w = .ok (.bool false) w := by kernel_rfl
set_option maxRecDepth 100000 in
set_option maxHeartbeats 2000000 in
theorem right_yes (v : Value) (ids : List Int) (w : World) (h : Row .i64 w v ids) (h0 : 0 < ids.length) (hl : ids.length ≤ 7) (hi : ∀ k ∈ ids, 1 ≤ k ∧ k ≤ 7) (hd : ids.Nodup) :
    Calls Tryz.prog 34 #[v] w fun e w' => e = .returned (.bool true) ∧ Below w.heap.size w w' := by
  obtain ⟨n, hn⟩ : ∃ n, ids.length = n := ⟨_, rfl⟩
  obtain ⟨a, c, rfl⟩ := h.shape n hn
  rw [hn] at h0 hl
  have hmm := @run_makeMap Tryz.prog
  have K : Keyed Tryz.prog 3 := int_keyed Tryz.underlying3
  have HR := Lib.hid h; have HN := Lib.hid hn; have HI := Lib.hid hi; have HD := Lib.hid hd; have HK := Lib.hid K
  have hb0 := (Below.refl w.heap.size w).alloc (Nat.le_refl _) (.map #[] 0)
  have own0 := World.ownsMap_made w Tryz.prog 3 (plainElem (H := Nat) Tryz.prog 4)
  clear h hn hi hd K
  go_enter Tryz.func34, Tryz.ntmps34
  go_wp2_with fail
  go_loopw [9] (fun i wr => ∃ k : Nat, i = .int .i64 k ∧ k ≤ n ∧ (∃ D, wr.ownsMap Tryz.prog 3 (plainElem (H := Nat) Tryz.prog 4) w.heap.size k D ∧ ∀ j, j ∉ ids.take k → D.atKey (.int .i64 j) (.lit (.bool false)) = .lit (.bool false)) ∧ Below w.heap.size w wr) (fun i _ => n - (intOf i).toNat)
  case atStart => exact ⟨0, rfl, Nat.zero_le _, ⟨_, own0, fun _ _ => rfl⟩, hb0⟩
  case round =>
    obtain ⟨k, rfl, hk, ⟨D, hown, hat⟩, hb⟩ := hrel
    clear own0 hb0
    have k0 : (0 : Int) ≤ (k : Int) := by omega
    have e1 : IntKind.i64.wrap ((k : Int) + 1) = (k : Int) + 1 := IntWalk.i64_in _ (by omega)
    by_cases hlt : k < n
    · have k1 : (k : Int) < (n : Int) := by omega
      have hkl : k < ids.length := by rw [HN.out]; exact hlt
      obtain ⟨_, _, e', -, -, -, -, hc⟩ := HR.out
      cases e'
      obtain ⟨b, o, rfl, hbl, hcell⟩ := hc (by rintro rfl; simp at hkl)
      have y := (hb.cell (p := ⟨b, o + k, none⟩) hbl).trans (hcell k hkl)
      obtain ⟨j, hj⟩ : ∃ j, ids[k]?.getD 0 = j := ⟨_, rfl⟩
      rw [hj] at y
      have hjm : j ∈ ids := by rw [← hj, List.getElem?_eq_getElem hkl]; exact List.getElem_mem _
      have hjr := HI.out j hjm
      have hj' : ids[k] = j := by rw [← hj, List.getElem?_eq_getElem hkl]; rfl
      have htk : ids.take (k + 1) = ids.take k ++ [j] := by
        rw [List.take_add_one, List.getElem?_eq_getElem hkl, hj']; rfl
      have hnot : j ∉ ids.take k := by
        have := HD.out
        have h2 : (ids.take (k + 1)).Nodup := this.sublist (List.take_sublist _ _)
        rw [htk, List.nodup_append] at h2
        exact fun hm => h2.2.2 j hm j (by simp) rfl
      have hblr : b < wr.heap.size := Nat.lt_of_lt_of_le hbl hb.size
      have hkey : keyOf Tryz.prog 3 (.int .i64 j) = some (.int .i64 j) := keyOf_int_mk Tryz.underlying3 (i64_wf (by omega) (by omega))
      have hloo : (Instr.lookup 109 (.map (some w.heap.size)) (.int .i64 j) false).run Tryz.prog wr = .ok (.bool false) wr := by
        obtain ⟨u, ps, hrun, hu⟩ := hown.lookup HK.out Tryz.underlying109 (zeroBool _) (plainElem_bool Tryz.underlying4 false) hkey
        rw [hat j hnot] at hu
        obtain ⟨x, rfl, hx⟩ := plainBool_inv Tryz.underlying4 hu
        simp only [Prod.mk.injEq] at hx
        cases hx.1
        exact hrun
      have HO := Lib.hid hown; have HA := Lib.hid hat; have HB := Lib.hid hb; have HT := Lib.hid htk
      clear hown hat hb htk hc hcell hj hj' hjm hnot
      go_wp2_with (first
        | (at_mapUpdate; refine wpList_mapUpdate_own _ rfl _ _ _ 109 rfl 3 4 HK.out Tryz.underlying109 _ w.heap.size k _ rfl HO.out (by unfold maxLen; omega) _ _ _ rfl rfl hkey _ [] (plainElem_bool Tryz.underlying4 true) ?_; intro w1 hown1 hgrow1)
        | fail)
      go_roundw
      case rel =>
        refine ⟨k + 1, by go_num, by omega, ⟨_, hown1, fun i hi => ?_⟩, HB.out.grown hgrow1 HB.out.size (fun j hj => by cases hj; exact Nat.le_refl _)⟩
        rw [HT.out] at hi
        rw [atKey_put_other (by rintro ⟨⟩; simp at hi)]
        exact HA.out i (fun hm => hi (List.mem_append_left _ hm))
      case measure => simp [intOf]; omega
    · obtain rfl : k = n := by omega
      have HB := Lib.hid hb
      clear hb hown hat
      go_wp2_with fail
      rw [show decide ((k : Int) ≤ 7) = true from decide_eq_true (by omega)]
      go_ret
      exact ⟨rfl, HB.out⟩

theorem Shs.shapeN {w : World} {v : Value} {l : List Shr} (h : Shs w v l) {n : Nat} (hn : l.length = n) : ∃ a c, v = .slice a n c := hn ▸ h.shape
/-- Shares that a crew may hold. -/
def Fit (l : List Shr) : Prop := 0 < l.length ∧ l.length ≤ 7 ∧ (∀ p ∈ l, (1 ≤ p.1 ∧ p.1 ≤ 7) ∧ 0 ≤ p.2 ∧ p.2 < Gm.R) ∧ (l.map (·.1)).Nodup

set_option maxRecDepth 100000 in
set_option maxHeartbeats 2000000 in
theorem may_yes (v : Value) (l : List Shr) (w : World) (h : Shs w v l) (hf : Fit l) :
    Calls Tryz.prog 19 #[v] w fun e w' => e = .returned (.bool true) ∧ Below w.heap.size w w' := by
  obtain ⟨a, c, rfl⟩ := h.shape
  obtain ⟨n, hn⟩ : ∃ n, l.length = n := ⟨_, rfl⟩
  have hR : Gm.R = 1152921504606845789 := rfl
  have M := fun W (hW : Below w.heap.size w W) => mapI_any _ l W (h.below hW) (by have := hf.2.1; omega) (fun p hp => by have := hf.2.2.1 p hp; omega)
  have Y := fun W r (hr : Row .i64 W r (l.map (·.1))) => right_yes r _ W hr (by rw [List.length_map]; exact hf.1) (by rw [List.length_map]; exact hf.2.1) (fun k hk => by obtain ⟨p, hp, rfl⟩ := List.mem_map.1 hk; exact (hf.2.2.1 p hp).1) hf.2.2.2
  have hl := hf.2.1
  rw [hn] at hl M ⊢
  have HH := Lib.hid h; have HN := Lib.hid hn; have HF := Lib.hid hf; have HM := Lib.hid M; have HY := Lib.hid Y
  clear h hn hf M Y
  go_enter Tryz.func19, Tryz.ntmps19
  go_wp2_with fail
  go_loopw [7] (fun i wr => ∃ k : Nat, i = .int .i64 k ∧ k ≤ n ∧ Below w.heap.size w wr) (fun i _ => n - (intOf i).toNat)
  case atStart => exact ⟨0, rfl, Nat.zero_le _, Below.refl _ _⟩
  case round =>
    obtain ⟨k, rfl, hk, hb⟩ := hrel
    have k0 : (0 : Int) ≤ (k : Int) := by omega
    have e1 : IntKind.i64.wrap ((k : Int) + 1) = (k : Int) + 1 := IntWalk.i64_in _ (by omega)
    by_cases hlt : k < n
    · have k1 : (k : Int) < (n : Int) := by omega
      have hkl : k < l.length := by rw [HN.out]; exact hlt
      have hs := HH.out.below hb
      rw [HN.out] at hs
      obtain ⟨b, o, rfl, hbl, y0, y1⟩ := hs.at k hkl
      obtain ⟨p, hp⟩ : ∃ p, l[k]?.getD shNo = p := ⟨_, rfl⟩
      have hpr := HF.out.2.2.1 p (by rw [← hp, List.getElem?_eq_getElem hkl]; exact List.getElem_mem _)
      rw [hp] at y0 y1
      obtain ⟨pi, px⟩ := p
      dsimp only at y0 y1 hpr
      have px1 : px < 1152921504606845789 := by omega
      have q := Duo.new wr 65 (.int .i64 pi) (.int .u64 px)
      have c1 := q.cell1
      have HB := Lib.hid hb
      clear hb hp hs q hpr
      go_wp2_with fail
      go_roundw
      case rel => exact ⟨k + 1, by go_num, by omega, HB.out.alloc HB.out.size _⟩
      case measure => simp [intOf]; omega
    · obtain rfl : k = n := by omega
      have HB := Lib.hid hb
      clear hb
      go_wp2_with fail
      refine (HM.out _ HB.out).mono ?_; rintro e w1 ⟨⟨r, rfl, hr⟩, hb1⟩
      obtain ⟨ra, rc, rfl⟩ := hr.shape k (by rw [List.length_map]; exact HN.out)
      have HR1 := Lib.hid hr
      clear hr
      go_wp2_with fail
      refine (HY.out _ _ HR1.out).mono ?_; rintro e w2 ⟨rfl, hb2⟩
      go_wp2_with fail
      go_ret
      have q1 := HB.out.trans (hb1.mono HB.out.size)
      exact ⟨rfl, q1.trans (hb2.mono q1.size)⟩

set_option maxRecDepth 100000 in
set_option maxHeartbeats 2000000 in
theorem SPub_yes (v : Value) (l : List Shr) (w : World) (h : Shs w v l) (hf : Fit l) :
    Calls Tryz.prog 51 #[v] w fun e w' => (∃ r, e = .returned (.tuple #[r, .int .i64 0]) ∧ Shs w' r (l.map pubS) ∧ Past w.heap.size r) ∧ Below w.heap.size w w' := by
  obtain ⟨a, c, rfl⟩ := h.shape
  obtain ⟨n, hn⟩ : ∃ n, l.length = n := ⟨_, rfl⟩
  have A := may_yes _ l w h hf
  have M := fun W (hW : Below w.heap.size w W) => mapS_any _ l W (h.below hW) (by have := hf.2.1; omega) (fun p hp => (hf.2.2.1 p hp).2)
  rw [hn] at A M ⊢
  have HM := Lib.hid M; have HN := Lib.hid hn
  clear h hn hf M
  go_enter Tryz.func51, Tryz.ntmps51
  go_wp2_with fail
  refine A.mono ?_; rintro e w1 ⟨rfl, hb1⟩
  go_wp2_with fail
  refine (HM.out _ hb1).mono ?_; rintro e w2 ⟨⟨r, rfl, hr, hpa⟩, hb2⟩
  obtain ⟨ra, rc, rfl⟩ := hr.shapeN ((List.length_map ..).trans HN.out)
  have HR1 := Lib.hid hr; have HPA := Lib.hid hpa; have hs1 := hb1.size
  clear hr hpa
  go_wp2_with fail
  go_ret2
  exact ⟨⟨_, rfl, HR1.out, fun b o l c e => Nat.le_trans hs1 (HPA.out b o l c e)⟩, hb1.trans (hb2.mono hb1.size)⟩
end Go.Proofs.YtlaidjgdipacgaaGreatDoor
end

section
namespace Go.Proofs.YtlaidjgdipacgaaGreatDoor
open Go.RowKit Go.Maps Go.Sort

namespace Gm
/-- What Join counts over shares. -/
def joinS (ids : List Int) (x : Int) (l : List Shr) : Int := l.foldl (fun o p => add R o (mul R p.2 (weight ids x p.1))) 0
theorem joinS_snoc (ids : List Int) (x : Int) (l : List Shr) (p : Shr) : joinS ids x (l ++ [p]) = add R (joinS ids x l) (mul R p.2 (weight ids x p.1)) := by
  unfold joinS; rw [List.foldl_append]; rfl
theorem joinS_rng (ids : List Int) (x : Int) (l : List Shr) : 0 ≤ joinS ids x l ∧ joinS ids x l < R := by
  rcases List.eq_nil_or_concat l with rfl | ⟨l', p, rfl⟩
  · exact ⟨Int.le_refl _, (by decide : (0 : Int) < R)⟩
  · rw [List.concat_eq_append, joinS_snoc]; exact rng R_pos _
theorem joinS_is (x : Int) (X : Int → Int) (ids0 : List Int) : ∀ l : List Int, joinS ids0 x (l.map fun i => (i, X i)) = l.foldl (fun o i => add R o (mul R (X i) (weight ids0 x i))) 0 := fun l => by
  unfold joinS; rw [List.foldl_map]
theorem weight_rng (ids : List Int) (x i : Int) : 0 ≤ weight ids x i ∧ weight ids x i < R := rng R_pos _
end Gm
/-- .. and their Ids' weights have their inverses. -/
def FitI (l : List Shr) : Prop := Fit l ∧ Gm.invs (l.map (·.1)) = true
theorem FitI.inv {l : List Shr} (h : FitI l) : ∀ i ∈ l.map (·.1), Gm.mul Gm.R (Gm.invN (Gm.above (l.map (·.1)) i i)) (Gm.above (l.map (·.1)) i i) = 1 := fun i hi => by
  have := List.all_eq_true.1 h.2 i hi
  exact of_decide_eq_true this
theorem Fit.ids {l : List Shr} (h : Fit l) : ∀ k ∈ l.map (·.1), 1 ≤ k ∧ k ≤ 7 := fun k hk => by
  obtain ⟨p, hp, rfl⟩ := List.mem_map.1 hk
  exact (h.2.2.1 p hp).1

theorem boxed_below {W W' : World} {B : Nat} {t : TypeId} {v : Value} (h : Boxed W B t v) (hb : Below W.heap.size W W') : Boxed W' B t v := (hb.block B h.lt).trans h
set_option maxRecDepth 100000 in
set_option maxHeartbeats 2000000 in
theorem Join_any (v : Value) (l : List Shr) (w : World) (h : Shs w v l) (hf : FitI l) :
    Calls Tryz.prog 6 #[v] w fun e w' => e = .returned (.tuple #[.int .u64 (Gm.joinS (l.map (·.1)) 0 l), .int .i64 0]) ∧ Below w.heap.size w w' := by
  obtain ⟨a, c, rfl⟩ := h.shape
  obtain ⟨n, hn⟩ : ∃ n, l.length = n := ⟨_, rfl⟩
  have hR : Gm.R = 1152921504606845789 := rfl
  have A := may_yes _ l w h hf.1
  have M := fun W (hW : Below w.heap.size w W) => mapI_any _ l W (h.below hW) (by have := hf.1.2.1; omega) (fun p hp => by have := hf.1.2.2.1 p hp; omega)
  have hl := hf.1.2.1
  have h0 := hf.1.1
  obtain ⟨t, ht⟩ : ∃ t, Gm.joinS (l.map (·.1)) 0 l = t := ⟨_, rfl⟩
  obtain ⟨ids, hids⟩ : ∃ ids, l.map (·.1) = ids := ⟨_, rfl⟩
  have idl : ids.length = n := by rw [← hids, List.length_map, hn]
  have hir := hf.1.ids
  have hiv := hf.inv
  rw [hids] at ht M hir hiv
  rw [hn] at hl A M h0 ⊢
  rw [hids, ht]
  have n0 : ¬ n = 0 := by omega
  have n1 : ((n : Int) == 0) = false := by rw [beq_eq_false_iff_ne]; omega
  have HH := Lib.hid h; have HN := Lib.hid hn; have HF := Lib.hid hf; have HM := Lib.hid M; have HT := Lib.hid ht; have HI := Lib.hid hids; have HL := Lib.hid idl; have HR := Lib.hid hir; have HV := Lib.hid hiv
  clear h hn hf M ht hids idl hir hiv
  go_enter Tryz.func6, Tryz.ntmps6
  go_wp2_with fail
  refine A.mono ?_; rintro e w1 ⟨rfl, hb1⟩
  go_wp2_with fail
  refine (HM.out _ hb1).mono ?_; rintro e w2 ⟨⟨r, rfl, hr⟩, hb2⟩
  obtain ⟨ra, rc, rfl⟩ := hr.shape n HL.out
  have HR1 := Lib.hid hr
  clear hr
  go_wp2_with fail
  refine (weights_any ra n rc 0 w2).mono ?_; rintro e w3 ⟨rfl, hw3⟩
  have q12 : Below w.heap.size w w2 := hb1.trans (hb2.mono hb1.size)
  have hbx : Boxed w3 w2.heap.size 23 (.slice ra n rc) := by rw [hw3]; exact (Boxed.new w2 _ _).alloc _
  have hby : Boxed w3 (w2.heap.size + 1) 25 (.int .u64 0) := by
    have := Boxed.new (w2.alloc (.cells #[.slice ra n rc] 23)) 25 (.int .u64 0)
    rw [World.size_alloc] at this
    rw [hw3]; exact this
  have hb3 : Below w2.heap.size w2 w3 := by rw [hw3]; exact ((Below.refl w2.heap.size w2).alloc (Nat.le_refl _) _).alloc (by simp) _
  have hrow := HR1.out.below hb3
  have q13 := q12.trans (hb3.mono q12.size)
  have HBX := Lib.hid hbx; have HBY := Lib.hid hby; have HRW := Lib.hid hrow; have Q13 := Lib.hid q13
  obtain ⟨B, hB⟩ : ∃ B, w2.heap.size = B := ⟨_, rfl⟩
  rw [hB] at HBX HBY
  rw [hB]
  have lB := HBX.out.lt; have lB1 := HBY.out.lt
  clear hw3 hb3 hbx hby hrow q13 q12 hb2 hb1 HR1 hB
  go_wp2_with fail
  go_loopw [2, 20] (fun o i wr => ∃ k : Nat, i = .int .i64 k ∧ k ≤ n ∧ o = .int .u64 (Gm.joinS ids 0 (l.take k)) ∧ Below w3.heap.size w3 wr) (fun _ i _ => n - (intOf i).toNat)
  case atStart => exact ⟨0, rfl, Nat.zero_le _, rfl, Below.refl _ _⟩
  case round =>
    obtain ⟨k, rfl, hk, rfl, hb⟩ := hrel
    have k0 : (0 : Int) ≤ (k : Int) := by omega
    have e1 : IntKind.i64.wrap ((k : Int) + 1) = (k : Int) + 1 := IntWalk.i64_in _ (by omega)
    by_cases hlt : k < n
    · have k1 : (k : Int) < (n : Int) := by omega
      have hkl : k < l.length := by rw [HN.out]; exact hlt
      have q3 := Q13.out.trans (hb.mono Q13.out.size)
      have hs := HH.out.below q3
      rw [HN.out] at hs
      obtain ⟨b, o, rfl, hbl, y0, y1⟩ := hs.at k hkl
      obtain ⟨p, hp⟩ : ∃ p, l[k]?.getD shNo = p := ⟨_, rfl⟩
      have hpm : p ∈ l := by rw [← hp, List.getElem?_eq_getElem hkl]; exact List.getElem_mem _
      have hpr := HF.out.1.2.2.1 p hpm
      have hpi : p.1 ∈ ids := by rw [← HI.out]; exact List.mem_map_of_mem hpm
      have htk : l.take (k + 1) = l.take k ++ [p] := by
        rw [List.take_add_one, List.getElem?_eq_getElem hkl]
        rw [List.getElem?_eq_getElem hkl] at hp
        rw [← hp]; rfl
      have hjs := Gm.joinS_snoc ids 0 (l.take k) p
      rw [← htk] at hjs
      have jr := Gm.joinS_rng ids 0 (l.take k)
      rw [hp] at y0 y1
      obtain ⟨pi, px⟩ := p
      dsimp only at y0 y1 hpr hpi hjs
      have wr' := Gm.weight_rng ids 0 pi
      have q := Duo.new wr 65 (.int .i64 pi) (.int .u64 px)
      obtain ⟨W, hW⟩ : ∃ W, wr.alloc (.cells #[.int .i64 pi, .int .u64 px] 65) = W := ⟨_, rfl⟩
      have hbW : Below w3.heap.size w3 W := by rw [← hW]; exact hb.alloc hb.size _
      rw [hW] at q
      obtain ⟨C, hC⟩ : ∃ C, wr.heap.size = C := ⟨_, rfl⟩
      rw [hC] at q
      have S1 := fun W' (h' : Below w3.heap.size w3 W') => wgt_any ids 0 pi B _ W' (boxed_below HBX.out h') (boxed_below HBY.out h') (HRW.out.below h') (by rw [HL.out]; exact hl) HR.out hpr.1 (by omega) (HV.out pi hpi)
      have S2 := fun W' => GMulR_any px (Gm.weight ids 0 pi) W' (by omega) (by omega) (by omega) (by omega)
      obtain ⟨wt, hwt⟩ : ∃ x, Gm.weight ids 0 pi = x := ⟨_, rfl⟩
      rw [hwt] at S1 S2 hjs wr'
      have mr := Gm.mul_rng' px wt
      obtain ⟨mm, hmm⟩ : ∃ x, Gm.mul Gm.R px wt = x := ⟨_, rfl⟩
      rw [hmm] at S2 mr hjs
      obtain ⟨js, hjs0⟩ : ∃ x, Gm.joinS ids 0 (l.take k) = x := ⟨_, rfl⟩
      rw [hjs0] at hjs jr ⊢
      have S3 := fun W' => GAddR_any js mm W' (by omega) (by omega) (by omega) (by omega)
      rw [← hjs] at S3
      have x0 := q.cell0; have x1 := q.cell1; have lC := q.lt
      have QQ := Lib.hid q; have HW := Lib.hid hW; have HC := Lib.hid hC; have HbW := Lib.hid hbW; have H1 := Lib.hid S1
      clear q hW hC hbW S1 hjs0 hmm hwt hjs htk hpi hpr hpm hp hs q3 wr' mr jr hb
      go_wp2_with fail
      rw [HW.out, HC.out]
      have q0 := cell_regrown x0; have q1 := cell_regrown x1
      have p1 : ∀ dd os, Calls Tryz.prog 52 #[.int .i64 pi, .pointer (some ⟨B, 0, none⟩), .pointer (some ⟨B + 1, 0, none⟩)] (grow (redrawn W dd) os) fun e w'' => e = .returned (.int .u64 wt) ∧ ∃ p : Regrown, w'' = grow (redrawn W p.d) p.os := fun dd os => Calls.regrown_of (H1.out _ (bel_stp HbW.out (below_regrown W dd os)))
      have p2 : ∀ dd os, Calls Tryz.prog 24 #[.int .u64 px, .int .u64 wt] (grow (redrawn W dd) os) fun e w'' => e = .returned (.int .u64 mm) ∧ ∃ p : Regrown, w'' = grow (redrawn W p.d) p.os := fun dd os => Calls.regrown_of (S2 _)
      have p3 : ∀ dd os, Calls Tryz.prog 23 #[.int .u64 js, .int .u64 mm] (grow (redrawn W dd) os) fun e w'' => e = .returned (.int .u64 (Gm.joinS ids 0 (List.take (k + 1) l))) ∧ ∃ p : Regrown, w'' = grow (redrawn W p.d) p.os := fun dd os => Calls.regrown_of (S3 _)
      clear S2 S3 QQ
      refine wp_region_quiet_below (by kernel_rfl) (by kernel_rfl) ?_
      repeat (go_big_quiet_step (first | with_reducible exact p1 _ _ | with_reducible exact p2 _ _ | with_reducible exact p3 _ _ | fail))
      refine wpQuiet_nil ?_
      intro _ hw'
      obtain ⟨⟨dq, osq⟩, hw''⟩ := hw'
      subst hw''
      go_wp2_with fail
      go_roundw
      case rel => exact ⟨k + 1, by go_num, by omega, rfl, bel_stp HbW.out (below_regrown W dq osq)⟩
      case measure => simp [intOf]; omega
    · obtain rfl : k = n := by omega
      rw [← HN.out, List.take_length, HT.out]
      have q3 := Q13.out.trans (hb.mono Q13.out.size)
      have HQ := Lib.hid q3
      clear hb q3
      go_wp2_with fail
      go_ret2
      exact ⟨rfl, HQ.out⟩
end Go.Proofs.YtlaidjgdipacgaaGreatDoor
end
