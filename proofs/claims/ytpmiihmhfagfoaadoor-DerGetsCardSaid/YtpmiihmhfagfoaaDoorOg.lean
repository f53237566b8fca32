/-
  The walk of DerGets: of any bytes and place which item stands there.
-/
import Derived.Test.YtpmiihmhfagfoaaDoorR8
import Derived.Test.YtpmiihmhfagfoaaDoorRs7
import Derived.Test.YtpmiihmhfagfoaaDoorEi
namespace Go.Proofs.YtpmiihmhfagfoaaDoor
open Go.RowKit

theorem read_any : ∀ d, 1 ≤ d → d ≤ 8 → ReadOn d
  | 0, h, _ => by omega
  | d + 1, h, h8 => read_of (d + 1) h h8 (fun d' e h1 => by obtain rfl : d' = d := (by omega); exact read_any d' h1 (by omega))

set_option maxRecDepth 100000 in
set_option maxHeartbeats 2000000 in
theorem rGet_any (v : Value) (l : List Int) (p : Int) (w : World) (h : Row .u8 w v l) (hl : l.length ≤ 1000000) :
    Calls Tryd.prog 17 #[v, .int .i64 p] w fun e w' => GotAt w.heap.size w' e (getAt l p) ∧ Below w.heap.size w w' := by
  obtain ⟨a, c, rfl⟩ := h.shape l.length rfl
  obtain ⟨R, hR⟩ : ∃ R, getAt l p = R := ⟨_, rfl⟩
  rw [hR]
  obtain ⟨B, hB⟩ : ∃ B, w.heap.size = B := ⟨_, rfl⟩
  rw [hB]
  have q0 := Trip.new w 25 (.int .i64 0) (.slice none 0 0) (.slice none 0 0)
  have hb0 := (Below.refl w.heap.size w).alloc (Nat.le_refl _) (.cells #[.int .i64 0, .slice none 0 0, .slice none 0 0] 25)
  obtain ⟨W, hW⟩ : ∃ W, w.alloc (.cells #[.int .i64 0, .slice none 0 0, .slice none 0 0] 25) = W := ⟨_, rfl⟩
  have hWs : W.heap.size = B + 1 := by rw [← hW, World.size_alloc, hB]
  rw [hW] at q0 hb0
  have r0 := h.below hb0
  rw [hB] at q0 hb0
  obtain ⟨n, hn⟩ : ∃ n, l.length = n := ⟨_, rfl⟩
  rw [hn] at hl r0 ⊢
  have HN := Lib.hid hn; have HR := Lib.hid hR; have HW := Lib.hid hW; have HB := Lib.hid hB; have R0 := Lib.hid r0; have HB0 := Lib.hid hb0; have Q0 := Lib.hid q0; have HWS := Lib.hid hWs
  clear hn hR hW hB r0 hb0 q0 h hWs
  by_cases hp0 : p < 0
  · have hr : R = .error 1 := by rw [← HR.out, getAt, if_pos (.inl hp0)]
    have HE := Lib.hid hr
    clear hr
    go_enter Tryd.func17, Tryd.ntmps17
    go_wp2_with fail
    rw [HW.out, HB.out]
    refine bodyPost_ret (item_ret rfl rfl Q0.out) rfl ?_
    exact ⟨by rw [HE.out]; rfl, HB0.out⟩
  by_cases hpn : (n : Int) < p
  · have hr : R = .error 1 := by rw [← HR.out, getAt, if_pos (.inr (by rw [HN.out]; exact hpn))]
    have HE := Lib.hid hr
    clear hr
    go_enter Tryd.func17, Tryd.ntmps17
    go_wp2_with fail
    rw [HW.out, HB.out]
    refine bodyPost_ret (item_ret rfl rfl Q0.out) rfl ?_
    exact ⟨by rw [HE.out]; rfl, HB0.out⟩
  obtain ⟨k, rfl⟩ := Int.eq_ofNat_of_zero_le (show 0 ≤ p by omega)
  have hkn : k ≤ n := by omega
  have hR2 : R = readAt l k 8 := by
    rw [← HR.out, getAt, if_neg (by rw [HN.out]; omega), readAt, Int.toNat_natCast]; rfl
  have HR2 := Lib.hid hR2
  clear hR2
  have hC := read_any 8 (by decide) (Nat.le_refl _) _ l k W R0.out (by rw [HN.out]; exact hl) (by rw [HN.out]; exact hkn)
  rw [HWS.out] at hC
  obtain ⟨X, hX⟩ : ∃ X, readAt l k 8 = X := ⟨_, rfl⟩
  rw [hX] at hC
  have HX := Lib.hid hX
  clear hX
  go_enter Tryd.func17, Tryd.ntmps17
  go_wp2_with fail
  rw [HW.out]
  (try rw [HB.out])
  (try go_wp2_with fail)
  refine hC.mono ?_; rintro e w1 ⟨hG, hb1⟩
  clear hC
  have q1 := trip_stp Q0.out (show Below W.heap.size W w1 by rw [HWS.out]; exact hb1)
  have hB1 := HB0.out.trans (hb1.mono (by omega))
  have Q1 := Lib.hid q1; have HB1 := Lib.hid hB1
  clear hb1 hB1
  have f0 := q1.free 0; have f1 := q1.free 1; have f2 := q1.free 2; have x0 := q1.cell0; have x1 := q1.cell1; have x2 := q1.cell2; have xl := q1.lt
  clear q1
  match X, HX, hG with
  | .error cc, HX, hG =>
    have hG' : e = .returned (.tuple #[noV, .int .i64 0, .int .i64 cc]) := hG
    subst hG'
    have hr : R = .error cc := by rw [HR2.out, HX.out]
    have HE := Lib.hid hr
    clear hr hG
    go_wp2_with fail
    refine bodyPost_ret (item_ret rfl rfl (trip3 Q1.out _ _ _)) rfl ?_
    exact ⟨by rw [HE.out]; rfl, bel3' HB1.out (Nat.le_refl _) _ _ _⟩
  | .ok (x, m), HX, hG =>
    obtain ⟨ab, cb, al, cl, rfl, hown⟩ := hG
    have hr : R = .ok (x, m) := by rw [HR2.out, HX.out]
    have HE := Lib.hid hr; have HO := Lib.hid hown
    clear hr hown
    go_wp2_with fail
    refine bodyPost_ret (item_ret rfl rfl (trip3 Q1.out _ _ _)) rfl ?_
    have hb5 := bel3' HB1.out (Nat.le_refl B) (.int .i64 x.tag) (.slice ab x.b.length cb) (.slice al x.l.length cl)
    rw [HE.out]
    refine ⟨⟨ab, cb, al, cl, rfl, (HO.out.kept ⟨?_, fun g hg _ _ => ?_⟩).mono (Nat.le_succ B)⟩, hb5⟩
    · simp
    · exact ((Below.heap_setCell _ ⟨B, 2, none⟩ _ g (show g ≠ B by omega)).trans (Below.heap_setCell _ ⟨B, 1, none⟩ _ g (show g ≠ B by omega))).trans (Below.heap_setCell _ ⟨B, 0, none⟩ _ g (show g ≠ B by omega))

set_option maxRecDepth 100000 in
set_option maxHeartbeats 4000000 in
theorem DerGets_any (v : Value) (l : List Int) (p : Int) (w : World) (hk : KindsAt w) (h : Row .u8 w v l) (_hp : (Lit.int .i64 p).wf = true) :
    Calls Tryd.prog 4 #[v, .int .i64 p] w fun e w' => e = .returned (.bool true) ∧ Below w.heap.size w w' := by
  obtain ⟨a, c, rfl⟩ := h.shape l.length rfl
  have hC1 := live07_true w hk
  by_cases h9 : (9000 : Int) < (l.length : Int)
  · clear hk h
    go_enter Tryd.func4, Tryd.ntmps4
    go_wp2_with fail
    refine hC1.mono ?_; rintro e w1 ⟨rfl, hb⟩
    clear hC1
    go_wp2_with fail
    go_ret
    exact ⟨rfl, hb⟩
  have hl : l.length ≤ 1000000 := by omega
  have HR := Lib.hid h; have HK := Lib.hid hk
  clear h hk
  go_enter Tryd.func4, Tryd.ntmps4
  go_wp2_with fail
  refine hC1.mono ?_; rintro e w1 ⟨rfl, hb⟩
  have hC2 := Get_any _ l p w1 (HK.out.below hb) (HR.out.below hb) hl
  have HB1 := Lib.hid hb
  clear hC1 hb
  go_wp2_with fail
  refine hC2.mono ?_; rintro e w2 ⟨hG, hb⟩
  have hB2 := HB1.out.trans (hb.mono HB1.out.size)
  have HB2 := Lib.hid hB2
  clear hC2 hB2 hb
  match hg : getAt l p, hG with
  | .error cc, hG =>
    have hG' : e = .returned (.tuple #[noV, .int .i64 0, .int .i64 cc]) := hG
    subst hG'
    have hB3 := HB2.out.alloc HB2.out.size (.cells #[.int .i64 0, .slice none 0 0, .slice none 0 0] 25)
    have q3 := Trip.new w2 25 (.int .i64 0) (.slice none 0 0) (.slice none 0 0)
    have hC3 := rGet_any _ l p _ (HR.out.below hB3) hl
    rw [hg] at hC3
    have HB3 := Lib.hid hB3; have Q3 := Lib.hid q3
    clear hB3 q3 hG hg
    go_wp2_with fail
    refine hC3.mono ?_; rintro e w4 ⟨hG, hb⟩
    have hG' : e = .returned (.tuple #[noV, .int .i64 0, .int .i64 cc]) := hG
    subst hG'
    have q4 := (trip_stp Q3.out hb).alloc (.cells #[.int .i64 0, .slice none 0 0, .slice none 0 0] 25)
    have hB4 := HB3.out.trans (hb.mono HB3.out.size)
    have hB5 := hB4.alloc hB4.size (.cells #[.int .i64 0, .slice none 0 0, .slice none 0 0] 25)
    have hC5 := RSame_any Dm.no Dm.no (w4.alloc (.cells #[.int .i64 0, .slice none 0 0, .slice none 0 0] 25)) _ _ _ _ (ItP.no _) (ItP.no _)
    rw [(Dm.eqIt_iff _ _).2 rfl] at hC5
    have hC6 : Calls Tryd.prog 18 #[.agg #[.int .i64 0, .slice none 0 0, .slice none 0 0], .agg #[.int .i64 0, .slice none 0 0, .slice none 0 0]] (w4.alloc (.cells #[.int .i64 0, .slice none 0 0, .slice none 0 0] 25)) fun e w' => e = .returned (.bool true) ∧ Below (w4.alloc (.cells #[.int .i64 0, .slice none 0 0, .slice none 0 0] 25)).heap.size (w4.alloc (.cells #[.int .i64 0, .slice none 0 0, .slice none 0 0] 25)) w' := hC5
    have c0 := q4.cell0; have c1 := q4.cell1; have c2 := q4.cell2
    have HB5 := Lib.hid hB5
    clear hC3 hC5 hb q4 hB4 hB5 hG
    go_wp2_with fail
    refine hC6.mono ?_; rintro e w6 ⟨rfl, hb⟩
    have hB6 := HB5.out.trans (hb.mono HB5.out.size)
    clear hC6 hb
    go_wp2_with fail
    go_ret
    exact ⟨rfl, hB6⟩
  | .ok (x, m), hG =>
    obtain ⟨ab, cb, al, cl, rfl, ho⟩ := hG
    obtain ⟨nb, hnb⟩ : ∃ n, x.b.length = n := ⟨_, rfl⟩
    obtain ⟨nl, hnl⟩ : ∃ n, x.l.length = n := ⟨_, rfl⟩
    rw [hnb, hnl] at ho ⊢
    have hB3 := HB2.out.alloc HB2.out.size (.cells #[.int .i64 x.tag, .slice ab nb cb, .slice al nl cl] 25)
    have q3 := Trip.new w2 25 (.int .i64 x.tag) (.slice ab nb cb) (.slice al nl cl)
    have p3 := ho.it.alloc (.cells #[.int .i64 x.tag, .slice ab nb cb, .slice al nl cl] 25)
    have hC3 := rGet_any _ l p _ (HR.out.below hB3) hl
    rw [hg] at hC3
    have HB3 := Lib.hid hB3; have Q3 := Lib.hid q3; have P3 := Lib.hid p3
    clear hB3 q3 p3 ho hg
    go_wp2_with fail
    refine hC3.mono ?_; rintro e w4 ⟨hG, hb⟩
    obtain ⟨ab2, cb2, al2, cl2, rfl, ho2⟩ := hG
    rw [hnb, hnl] at ho2 ⊢
    have q4 := (trip_stp Q3.out hb).alloc (.cells #[.int .i64 x.tag, .slice ab2 nb cb2, .slice al2 nl cl2] 25)
    have hB4 := HB3.out.trans (hb.mono HB3.out.size)
    have hB5 := hB4.alloc hB4.size (.cells #[.int .i64 x.tag, .slice ab2 nb cb2, .slice al2 nl cl2] 25)
    have hC5 := RSame_any x x (w4.alloc (.cells #[.int .i64 x.tag, .slice ab2 nb cb2, .slice al2 nl cl2] 25)) _ _ _ _ ((P3.out.below hb).alloc _) (ho2.it.alloc _)
    rw [(Dm.eqIt_iff _ _).2 rfl] at hC5
    have c0 := q4.cell0; have c1 := q4.cell1; have c2 := q4.cell2
    have HB5 := Lib.hid hB5
    clear hC3 hb q4 hB4 hB5 ho2 hnb hnl
    go_wp2_with fail
    refine hC5.mono ?_; rintro e w6 ⟨rfl, hb⟩
    have hB6 := HB5.out.trans (hb.mono HB5.out.size)
    clear hC5 hb
    go_wp2_with fail
    go_ret
    exact ⟨rfl, hB6⟩
end Go.Proofs.YtpmiihmhfagfoaaDoor
