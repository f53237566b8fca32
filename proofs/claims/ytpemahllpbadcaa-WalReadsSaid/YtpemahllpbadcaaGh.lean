/-
  The walk over greatsealref20.Fix.
-/
import Derived.Test.YtpemahllpbadcaaGg
import Derived.Test.YtpemahllpbadcaaRd
import Derived.Test.YtpemahllpbadcaaRs
namespace Go.Proofs.Ytpemahllpbadcaa
open Go.RowKit

set_option maxRecDepth 100000 in
set_option maxHeartbeats 4000000 in
theorem RFix_any (v1 v2 : Value) (S O : List Int) (w : World) (h1 : Row .u8 w v1 S) (h2 : Row .u8 w v2 O) (n1 : S.length ≤ 40000) (n2 : O.length ≤ 40000) :
    Calls Try.prog 25 #[.agg #[v1, v2]] w fun e w' => ∃ x1 x2, e = .returned (.tuple #[.agg #[x1, x2], .int .i64 ((S ++ O).length - Wm.good (S ++ O) : Nat)]) ∧
      Row .u8 w' x1 ((S ++ O).take (min (Wm.good (S ++ O)) S.length)) ∧ Row .u8 w' x2 (((S ++ O).take (Wm.good (S ++ O))).drop (min (Wm.good (S ++ O)) S.length)) ∧ Below w.heap.size w w' := by
  obtain ⟨j0, gi, gz0, gz1, gz2⟩ := info_parts info_byte20
  have hby : ∀ x ∈ S ++ O, byte x := by
    intro x hx
    rcases List.mem_append.1 hx with h | h
    · exact h1.all_byte x h
    · exact h2.all_byte x h
  obtain ⟨a1, c1, rfl⟩ := h1.shape S.length rfl
  obtain ⟨a2, c2, rfl⟩ := h2.shape O.length rfl
  obtain ⟨b, hb⟩ : ∃ b, S ++ O = b := ⟨_, rfl⟩
  have hbl : b.length ≤ 80000 := by rw [← hb]; simp; omega
  obtain ⟨G, hG⟩ : ∃ G, Wm.good b = G := ⟨_, rfl⟩
  have hGb : G ≤ b.length := by rw [← hG]; exact Wm.good_le b
  obtain ⟨m, hm⟩ : ∃ m, min G S.length = m := ⟨_, rfl⟩
  have hmi : min (G : Int) (S.length : Int) = (m : Int) := by omega
  have hmG : m ≤ G := by omega
  obtain ⟨X, hX⟩ : ∃ X, b.take m = X := ⟨_, rfl⟩
  obtain ⟨Y, hY⟩ : ∃ Y, (b.take G).drop m = Y := ⟨_, rfl⟩
  have hXl : X.length = m := by rw [← hX]; simp; omega
  have hYl : Y.length = G - m := by rw [← hY]; simp; omega
  rw [hb] at hby ⊢
  rw [hG, hm, hX, hY]
  have hXb : ∀ x ∈ X, byte x := by rw [← hX]; exact fun x hx => hby x (List.mem_of_mem_take hx)
  have hYb : ∀ x ∈ Y, byte x := by rw [← hY]; exact fun x hx => hby x (List.mem_of_mem_take (List.mem_of_mem_drop hx))
  have HB := Lib.hid hb; have HBy := Lib.hid hby; have HXb := Lib.hid hXb; have HYb := Lib.hid hYb; have HXl := Lib.hid hXl; have HYl := Lib.hid hYl; have HX := Lib.hid hX; have HY := Lib.hid hY; have HG := Lib.hid hG
  clear hb hby hXb hYb hXl hYl hX hY hG hm
  obtain ⟨B, hB⟩ : ∃ B, w.heap.size = B := ⟨_, rfl⟩
  have dS := (Duo.new w 24 (.slice a1 S.length c1) (.slice a2 O.length c2)).alloc (.cells #[.slice none 0 0, .slice none 0 0] 24)
  have dX := Duo.new (w.alloc (.cells #[.slice a1 S.length c1, .slice a2 O.length c2] 24)) 24 (.slice none 0 0) (.slice none 0 0)
  have hbl0 := bel_alloc (bel_alloc (Below.refl w.heap.size w) (.cells #[.slice a1 S.length c1, .slice a2 O.length c2] 24)) (.cells #[.slice none 0 0, .slice none 0 0] 24)
  have r1 := (h1.alloc (.cells #[.slice a1 S.length c1, .slice a2 O.length c2] 24)).alloc (.cells #[.slice none 0 0, .slice none 0 0] 24)
  have r2 := (h2.alloc (.cells #[.slice a1 S.length c1, .slice a2 O.length c2] 24)).alloc (.cells #[.slice none 0 0, .slice none 0 0] 24)
  rw [World.size_alloc] at dX
  rw [hB] at dS dX
  go_enter Try.func25, Try.ntmps25
  have s0 := dS.cell0; have s1 := dS.cell1
  go_wp2_with fail
  (try rw [hB])
  refine (RRead_any _ _ S O _ r1 r2 (by omega) (by omega)).mono ?_; rintro e w1 ⟨rr, rfl, -, hb1⟩
  rw [HB.out, HG.out]
  replace hbl0 := bel_stp hbl0 hb1
  replace dS := dS.stp hb1
  replace dX := dX.stp hb1
  replace r1 := r1.stp hb1
  replace r2 := r2.stp hb1
  clear hb1 h1 h2 s0 s1
  have s0 := dS.cell0; have s1 := dS.cell1
  go_wp2_with fail
  refine (Rall_any _ _ S O _ r1 r2 (by omega) (by omega)).mono ?_; rintro e V ⟨r, rfl, ho, hb2⟩
  rw [HB.out] at ho
  have rb := owns_row ho HBy.out
  obtain ⟨ab, cb, rfl⟩ := rb.shape b.length rfl
  have hcb : b.length ≤ cb := by obtain ⟨_, _, e, h, _⟩ := rb; cases e; exact h
  replace hbl0 := bel_stp hbl0 hb2
  replace dS := dS.stp hb2
  replace dX := dX.stp hb2
  clear s0 s1 r1 r2 hb2 ho
  have rX := rb.take m (by omega)
  rw [HX.out] at rX
  have rY0 := rb.take G hGb
  have rY : Row .u8 V (.slice (if cb = m then ab else Option.map (fun x => x.add m) ab) (G - m) (cb - m)) Y := by
    have hlT : (b.take G).length = G := by simp; omega
    have hd : (b.take G).drop m = Y := HY.out
    by_cases q : cb = m
    · rw [if_pos q]
      have h := rY0.cut_all m (by omega) (by omega)
      rw [hd] at h
      have e0 : G - m = 0 := by omega
      rw [show cb - m = 0 by omega, e0]; rw [e0] at h; exact h
    · rw [if_neg q]
      have h := rY0.cut m (by omega) (by omega)
      rw [hd] at h
      exact h
  have s0 := dS.cell0; have s1 := dS.cell1
  have ltX := dX.lt
  have n1 : ¬ B = V.heap.size := by omega
  have k1 : (m : Int) ≤ (cb : Int) := by omega
  have k2 : (m : Int) ≤ (G : Int) := by omega
  have k3 : (G : Int) ≤ (cb : Int) := by omega
  have k4 : (0 : Int) ≤ (m : Int) := by omega
  have k5 : (0 : Int) ≤ (G : Int) := by omega
  have e1 : IntKind.i64.wrap ((b.length : Int) - G) = ((b.length - G : Nat) : Int) := by rw [IntWalk.i64_in _ (by omega)]; omega
  have hw0 : Below V.heap.size V V.drew := bel_drew (Below.refl _ _)
  by_cases q : cb = m
  all_goals
    first
      | (rw [if_pos q] at rY
         obtain rfl : G = m := (by omega)
         obtain rfl : cb = G := (by omega)
         rw [Nat.sub_self] at rY)
      | (rw [if_neg q] at rY)
    go_wp2_with fail
    go_region_held3 (fun _ => True) (first | trivial | go_keep)
      (first
      | (rw [if_pos (by rfl)]; refine wp_append_bare (.tmp 20) (.tmp 23) 22 rfl 5 j0 (.int .u8 0) Try.underlying22 gi gz0 gz1 gz2 rfl V.heap.size _ rfl (by first | with_reducible exact lb | with_reducible exact lb' | (refine Bare.new' _ _ _ ?_; simp; done) | (refine Bare.alloc (Bare.new' _ _ _ ?_) _; simp; done)) (by have := bz.size; first | omega | (simp; done) | (simp; omega)) _ _ (Row.below rX (by repeat (first | with_reducible exact hw0 | with_reducible exact bz | refine bel_alloc ?_ _ | refine bel_drew ?_ | with_reducible exact Below.refl _ _))) rfl (by first | (rw [HXl.out]; omega) | (rw [HYl.out]; omega)) ?_
         intro v1 wy o1 c1 _
         obtain ⟨ya, za, rfl, ra, pa⟩ := row_of_owned o1 HXb.out
         have cc : Below wz.heap.size wz wy := bel_stp (by first | with_reducible exact Below.refl _ _ | exact bel_alloc (Below.refl _ _) _) c1
         replace rq := rq.below cc
         have by1 : Below V.heap.size V wy := bel_stp bz cc
         have dY := dX.stp by1
         have y0 := dY.cell0; have y1 := dY.cell1; have y2 := dY.free 0; have y3 := dY.free 1)
      | (rw [if_pos (by rfl)]; refine wp_append_bare (.tmp 25) (.tmp 29) 22 rfl 5 j0 (.int .u8 0) Try.underlying22 gi gz0 gz1 gz2 rfl V.heap.size _ rfl (by first | with_reducible exact lb | with_reducible exact lb' | (refine Bare.new' _ _ _ ?_; simp; done) | (refine Bare.alloc (Bare.new' _ _ _ ?_) _; simp; done)) (by have := bz.size; first | omega | (simp; done) | (simp; omega)) _ _ (Row.below rY (by repeat (first | with_reducible exact hw0 | with_reducible exact bz | refine bel_alloc ?_ _ | refine bel_drew ?_ | with_reducible exact Below.refl _ _))) rfl (by first | (rw [HXl.out]; omega) | (rw [HYl.out]; omega)) ?_
         intro v2 wy o2 c2 _
         obtain ⟨yb, zb, rfl, rq, pb⟩ := row_of_owned o2 HYb.out
         have cc : Below wz.heap.size wz wy := bel_stp (by first | with_reducible exact Below.refl _ _ | exact bel_alloc (Below.refl _ _) _) c2
         replace ra := ra.below cc
         have by1 : Below V.heap.size V wy := bel_stp bz cc
         have dY := dX.stp by1
         have y0 := dY.cell0; have y1 := dY.cell1; have y2 := dY.free 0; have y3 := dY.free 1)
      | (rw [if_pos (by rfl)]; refine wp_append_bare (.tmp 20) (.tmp 23) 22 rfl 5 j0 (.int .u8 0) Try.underlying22 gi gz0 gz1 gz2 rfl V.heap.size _ rfl (by first | with_reducible exact lb | with_reducible exact lb' | (refine Bare.new' _ _ _ ?_; simp; done) | (refine Bare.alloc (Bare.new' _ _ _ ?_) _; simp; done)) (by first | omega | (simp; done) | (simp; omega)) _ _ (Row.below rX (by repeat (first | with_reducible exact hw0 | refine bel_alloc ?_ _ | refine bel_drew ?_ | with_reducible exact Below.refl _ _))) rfl (by first | (rw [HXl.out]; omega) | (rw [HYl.out]; omega)) ?_
         intro v1 wz o1 c1 _
         obtain ⟨ya, za, rfl, ra, pa⟩ := row_of_owned o1 HXb.out
         have bz : Below V.heap.size V wz := bel_stp (by repeat (first | with_reducible exact hw0 | refine bel_alloc ?_ _ | refine bel_drew ?_ | with_reducible exact Below.refl _ _)) c1
         (first | (have lb : Bare wz V.heap.size 5 := Bare.stp (by first | (refine Bare.new' _ _ _ ?_; simp; done) | (refine Bare.alloc (Bare.new' _ _ _ ?_) _; simp; done)) c1) | skip)
         (first | (have lb' : Bare wz (V.heap.size + 1) 5 := Bare.stp (by first | (refine Bare.new' _ _ _ ?_; simp; done) | fail) c1) | skip))
      | (rw [if_pos (by rfl)]; refine wp_append_bare (.tmp 25) (.tmp 29) 22 rfl 5 j0 (.int .u8 0) Try.underlying22 gi gz0 gz1 gz2 rfl V.heap.size _ rfl (by first | with_reducible exact lb | with_reducible exact lb' | (refine Bare.new' _ _ _ ?_; simp; done) | (refine Bare.alloc (Bare.new' _ _ _ ?_) _; simp; done)) (by first | omega | (simp; done) | (simp; omega)) _ _ (Row.below rY (by repeat (first | with_reducible exact hw0 | refine bel_alloc ?_ _ | refine bel_drew ?_ | with_reducible exact Below.refl _ _))) rfl (by first | (rw [HXl.out]; omega) | (rw [HYl.out]; omega)) ?_
         intro v2 wz o2 c2 _
         obtain ⟨yb, zb, rfl, rq, pb⟩ := row_of_owned o2 HYb.out
         have bz : Below V.heap.size V wz := bel_stp (by repeat (first | with_reducible exact hw0 | refine bel_alloc ?_ _ | refine bel_drew ?_ | with_reducible exact Below.refl _ _)) c2
         (first | (have lb : Bare wz V.heap.size 5 := Bare.stp (by first | (refine Bare.new' _ _ _ ?_; simp; done) | (refine Bare.alloc (Bare.new' _ _ _ ?_) _; simp; done)) c2) | skip)
         (first | (have lb' : Bare wz (V.heap.size + 1) 5 := Bare.stp (by first | (refine Bare.new' _ _ _ ?_; simp; done) | fail) c2) | skip))
      | fail)
    all_goals
      go_wp2_with fail
      have oa : Off (B + 1) (.slice ya X.length za) := pa.off (by omega)
      have ob : Off (B + 1) (.slice yb Y.length zb) := pb.off (by omega)
      have hz : Duo ((wy.setCell ⟨B + 1, 0, none⟩ (.slice ya X.length za)).setCell ⟨B + 1, 1, none⟩ (.slice yb Y.length zb)) (B + 1) 24 (.slice ya X.length za) (.slice yb Y.length zb) := (dY.set0 _).set1 _
      refine bodyPost_ret (results_cell_tmp rfl _ _ (B + 1) _ _ _ _ rfl hz rfl rfl rfl) rfl ⟨_, _, (by first | rfl | (rw [show b.length - cb = 0 by omega]; rfl)), (ra.aside oa _).aside oa _, (rq.aside ob _).aside ob _, ?_⟩
      exact bel_set (bel_set (bel_stp hbl0 by1) (by rw [hB]; simp) _) (by rw [hB]; simp) _
end Go.Proofs.Ytpemahllpbadcaa
