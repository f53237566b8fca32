/-
  Walks over der.Get.
-/
import Derived.Test.YtpmiihmhfagfoaaDoorDg
import Derived.Test.YtpmiihmhfagfoaaDoorEb
namespace Go.Proofs.YtpmiihmhfagfoaaDoor
open Go.RowKit

theorem get_any : ∀ d, d ≤ 8 → GetOn d
  | 0, h => get_of 0 h (fun d' e => by omega)
  | d + 1, h => get_of (d + 1) h (fun d' e => by obtain rfl : d' = d := (by omega); exact get_any d' (by omega))
/-- The item that stands at a place, and where it ends. -/
def getAt (l : List Int) (p : Int) : Except Int (Dm.It × Nat) :=
  if p < 0 ∨ (l.length : Int) < p then .error 1 else
  match Dm.get 8 (l.drop p.toNat) with
  | .error e => .error e
  | .ok (x, r) => .ok (x, l.length - r.length)
/-- What Get hands back. -/
def GotAt (n : Nat) (w' : World) (e : Ending) : Except Int (Dm.It × Nat) → Prop
  | .error c => e = .returned (.tuple #[noV, .int .i64 0, .int .i64 c])
  | .ok (x, m) => ∃ ab cb al cl, e = .returned (.tuple #[.agg #[.int .i64 x.tag, .slice ab x.b.length cb, .slice al x.l.length cl], .int .i64 m, .int .i64 0]) ∧ Own n none w' (.slice ab x.b.length cb) (.slice al x.l.length cl) x

set_option maxRecDepth 100000 in
set_option maxHeartbeats 2000000 in
theorem Get_any (v : Value) (l : List Int) (p : Int) (w : World) (hk : KindsAt w) (h : Row .u8 w v l) (hl : l.length ≤ 1000000) :
    Calls Tryd.prog 16 #[v, .int .i64 p] w fun e w' => GotAt w.heap.size w' e (getAt l p) ∧ Below w.heap.size w w' := by
  obtain ⟨a, c, rfl⟩ := h.shape l.length rfl
  have hlc : l.length ≤ c := by obtain ⟨_, _, e', hc, _⟩ := h; cases e'; exact hc
  have HA : Hid (a = none → c = 0) := Lib.hid (by obtain ⟨_, _, e', hc, _, h0, _⟩ := h; cases e'; exact h0)
  obtain ⟨R, hR⟩ : ∃ R, getAt l p = R := ⟨_, rfl⟩
  rw [hR]
  obtain ⟨B, hB⟩ : ∃ B, w.heap.size = B := ⟨_, rfl⟩
  rw [hB]
  have q0 := Trip.new w 25 (.int .i64 0) (.slice none 0 0) (.slice none 0 0)
  have hb0 := (Below.refl w.heap.size w).alloc (Nat.le_refl _) (.cells #[.int .i64 0, .slice none 0 0, .slice none 0 0] 25)
  obtain ⟨W, hW⟩ : ∃ W, w.alloc (.cells #[.int .i64 0, .slice none 0 0, .slice none 0 0] 25) = W := ⟨_, rfl⟩
  have hWs : W.heap.size = B + 1 := by rw [← hW, World.size_alloc, hB]
  rw [hW] at q0 hb0
  have k0 := hk.below hb0; have r0 := h.below hb0
  rw [hB] at q0 hb0
  obtain ⟨n, hn⟩ : ∃ n, l.length = n := ⟨_, rfl⟩
  rw [hn] at hl hlc r0 ⊢
  have HN := Lib.hid hn; have HR := Lib.hid hR; have HW := Lib.hid hW; have HB := Lib.hid hB; have K0 := Lib.hid k0; have R0 := Lib.hid r0; have HB0 := Lib.hid hb0; have Q0 := Lib.hid q0; have HWS := Lib.hid hWs
  clear hn hR hW hB k0 r0 hb0 q0 hk h hWs
  by_cases hp0 : p < 0
  · have hr : R = .error 1 := by rw [← HR.out, getAt, if_pos (.inl hp0)]
    have HE := Lib.hid hr
    clear hr
    go_enter Tryd.func16, Tryd.ntmps16
    go_wp2_with fail
    rw [HW.out, HB.out]
    refine bodyPost_ret (item_ret rfl rfl Q0.out) rfl ?_
    exact ⟨by rw [HE.out]; rfl, HB0.out⟩
  by_cases hpn : (n : Int) < p
  · have hr : R = .error 1 := by rw [← HR.out, getAt, if_pos (.inr (by rw [HN.out]; exact hpn))]
    have HE := Lib.hid hr
    clear hr
    go_enter Tryd.func16, Tryd.ntmps16
    go_wp2_with fail
    rw [HW.out, HB.out]
    refine bodyPost_ret (item_ret rfl rfl Q0.out) rfl ?_
    exact ⟨by rw [HE.out]; rfl, HB0.out⟩
  obtain ⟨k, rfl⟩ := Int.eq_ofNat_of_zero_le (show 0 ≤ p by omega)
  have hkn : k ≤ n := by omega
  have k0 : (0 : Int) ≤ (k : Int) := by omega
  have hR2 : R = match Dm.get 8 (l.drop k) with | .error e => .error e | .ok (x, r) => .ok (x, n - r.length) := by
    rw [← HR.out, getAt, if_neg (by rw [HN.out]; omega), HN.out]; rfl
  have HR2 := Lib.hid hR2
  clear hR2
  have fin : ∀ a' c', Row .u8 W (.slice a' (n - k) c') (l.drop k) → Calls Tryd.prog 47 #[.slice a' (n - k) c', .int .i64 8] W fun e w' => Gotten (B + 1) (.slice a' (n - k) c') (l.drop k) w' e (Dm.get 8 (l.drop k)) ∧ Below W.heap.size W w' := fun a' c' hr => by
    have := get_any 8 (Nat.le_refl _) _ (l.drop k) W K0.out hr (by rw [List.length_drop, HN.out]; omega)
    rw [HWS.out] at this ⊢; exact this
  have FIN := Lib.hid fin
  have hless : ∀ x r, Dm.get 8 (l.drop k) = .ok (x, r) → r.length ≤ n := fun x r h => by
    have := get_less _ _ _ _ h
    rw [List.length_drop, HN.out] at this; omega
  have HLess := Lib.hid hless
  clear fin hless
  obtain ⟨X, hX⟩ : ∃ X, Dm.get 8 (l.drop k) = X := ⟨_, rfl⟩
  have HX := Lib.hid hX
  clear hX
  by_cases hck : c = k
  · have rc := Row.cut_all R0.out k (by rw [HN.out]; exact hkn) (show c - k = 0 by omega)
    have hC := FIN.out _ _ rc
    have e0 : n - k = 0 := by omega
    obtain rfl : n = k := by omega
    subst hck
    rw [HX.out, Nat.sub_self] at hC
    clear rc e0
    go_enter Tryd.func16, Tryd.ntmps16
    go_wp2_with fail
    rw [HW.out]
    (try rw [HB.out])
    (try go_wp2_with fail)
    refine hC.mono ?_; rintro e w1 ⟨hG, hb1⟩
    clear hC
    have q1 := trip_stp Q0.out hb1
    have hB1 := HB0.out.trans (hb1.mono (by rw [HWS.out]; omega))
    have Q1 := Lib.hid q1; have HB1 := Lib.hid hB1
    clear hb1 hB1
    have f0 := q1.free 0; have f1 := q1.free 1; have f2 := q1.free 2; have x0 := q1.cell0; have x1 := q1.cell1; have x2 := q1.cell2; have xl := q1.lt
    clear q1
    match X, HX, hG with
    | .error cc, HX, hG =>
      have hG' : e = .returned (.tuple #[noV, .slice none 0 0, .int .i64 cc]) := hG
      subst hG'
      have hr : R = .error cc := by rw [HR2.out, HX.out]
      have HE := Lib.hid hr
      have hcc := get_fail HX.out
      clear hr hG
      rcases hcc with rfl | rfl
      all_goals
        go_wp2_with fail
        refine bodyPost_ret (item_ret rfl rfl (trip3 (trip3 Q1.out _ _ _) _ _ _)) rfl ?_
        exact ⟨by rw [HE.out]; rfl, bel3' (bel3' HB1.out (Nat.le_refl _) _ _ _) (Nat.le_refl _) _ _ _⟩
    | .ok (x, r), HX, hG =>
      obtain ⟨ab, cb, al, cl, a9, c9, rfl, hown, hrest⟩ := hG
      have hr : R = .ok (x, c - r.length) := by rw [HR2.out, HX.out]
      have hle := HLess.out x r HX.out
      have HE := Lib.hid hr; have HO := Lib.hid hown
      have hsub : IntKind.i64.wrap ((c : Int) - (r.length : Int)) = ((c - r.length : Nat) : Int) := (IntWalk.i64_in _ (by omega)).trans (by omega)
      clear hr hown hrest
      go_wp2_with fail
      refine bodyPost_ret (item_ret rfl rfl (trip3 (trip3 Q1.out _ _ _) _ _ _)) rfl ?_
      have hb5 := bel3' (bel3' HB1.out (Nat.le_refl B) (.int .i64 x.tag) (.slice ab x.b.length cb) (.slice al x.l.length cl)) (Nat.le_refl B) (.int .i64 x.tag) (.slice ab x.b.length cb) (.slice al x.l.length cl)
      rw [HE.out]
      refine ⟨⟨ab, cb, al, cl, rfl, (HO.out.kept ⟨?_, fun g hg _ _ => ?_⟩).mono (Nat.le_succ B)⟩, hb5⟩
      · simp
      · have far : ∀ (V : World) (i : Nat) (u : Value), (V.setCell ⟨B, i, none⟩ u).heap[g]? = V.heap[g]? := fun V i u => Below.heap_setCell V ⟨B, i, none⟩ u g (show g ≠ B by omega)
        rw [far, far, far, far, far, far]
  have hck2 : k < c := by omega
  have rc := Row.cut R0.out k (by rw [HN.out]; exact hkn) hck2
  obtain ⟨ad, rfl⟩ : ∃ ad, a = some ad := by
    cases a with
    | none => have := HA.out rfl; omega
    | some ad => exact ⟨ad, rfl⟩
  rw [Option.map_some] at rc

  have hC := FIN.out _ _ rc
  rw [HX.out] at hC
  clear rc
  go_enter Tryd.func16, Tryd.ntmps16
  go_wp2_with fail
  rw [HW.out]
  (try rw [HB.out])
  (try go_wp2_with fail)
  refine hC.mono ?_; rintro e w1 ⟨hG, hb1⟩
  clear hC
  have q1 := trip_stp Q0.out hb1
  have hB1 := HB0.out.trans (hb1.mono (by rw [HWS.out]; omega))
  have Q1 := Lib.hid q1; have HB1 := Lib.hid hB1
  clear hb1 hB1
  have f0 := q1.free 0; have f1 := q1.free 1; have f2 := q1.free 2; have x0 := q1.cell0; have x1 := q1.cell1; have x2 := q1.cell2; have xl := q1.lt
  clear q1
  match X, HX, hG with
  | .error cc, HX, hG =>
    have hG' : e = .returned (.tuple #[noV, .slice none 0 0, .int .i64 cc]) := hG
    subst hG'
    have hr : R = .error cc := by rw [HR2.out, HX.out]
    have HE := Lib.hid hr
    have hcc := get_fail HX.out
    clear hr hG
    rcases hcc with rfl | rfl
    all_goals
      go_wp2_with fail
      refine bodyPost_ret (item_ret rfl rfl (trip3 (trip3 Q1.out _ _ _) _ _ _)) rfl ?_
      exact ⟨by rw [HE.out]; rfl, bel3' (bel3' HB1.out (Nat.le_refl _) _ _ _) (Nat.le_refl _) _ _ _⟩
  | .ok (x, r), HX, hG =>
    obtain ⟨ab, cb, al, cl, a9, c9, rfl, hown, hrest⟩ := hG
    have hr : R = .ok (x, n - r.length) := by rw [HR2.out, HX.out]
    have hle := HLess.out x r HX.out
    have HE := Lib.hid hr; have HO := Lib.hid hown
    have hsub : IntKind.i64.wrap ((n : Int) - (r.length : Int)) = ((n - r.length : Nat) : Int) := (IntWalk.i64_in _ (by omega)).trans (by omega)
    clear hr hown hrest
    go_wp2_with fail
    refine bodyPost_ret (item_ret rfl rfl (trip3 (trip3 Q1.out _ _ _) _ _ _)) rfl ?_
    have hb5 := bel3' (bel3' HB1.out (Nat.le_refl B) (.int .i64 x.tag) (.slice ab x.b.length cb) (.slice al x.l.length cl)) (Nat.le_refl B) (.int .i64 x.tag) (.slice ab x.b.length cb) (.slice al x.l.length cl)
    rw [HE.out]
    refine ⟨⟨ab, cb, al, cl, rfl, (HO.out.kept ⟨?_, fun g hg _ _ => ?_⟩).mono (Nat.le_succ B)⟩, hb5⟩
    · simp
    · have far : ∀ (V : World) (i : Nat) (u : Value), (V.setCell ⟨B, i, none⟩ u).heap[g]? = V.heap[g]? := fun V i u => Below.heap_setCell V ⟨B, i, none⟩ u g (show g ≠ B by omega)
      rw [far, far, far, far, far, far]
end Go.Proofs.YtpmiihmhfagfoaaDoor
