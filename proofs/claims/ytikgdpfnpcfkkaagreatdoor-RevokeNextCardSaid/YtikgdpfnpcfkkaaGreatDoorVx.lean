/-
  Walks over slices.IndexFunc and slices.DeleteFunc where the closure is revoke.in's. (Printed by wip/gen_idx.py.)
-/
import Derived.Test.YtikgdpfnpcfkkaaGreatDoorYb
namespace Go.Proofs.YtikgdpfnpcfkkaaGreatDoor
open Go.RowKit

/-- What the closure answers, in whatever world behind w0. -/
def AsksIn (w0 : World) (B : Nat) (q : Int → Bool) : Prop :=
  ∀ n W, Below w0.heap.size w0 W → Calls Tryz.prog 45 #[.int .i64 n, .pointer (some ⟨B, 0, none⟩)] W fun e W' => e = .returned (.bool (!q n)) ∧ Below W.heap.size W W'
set_option maxRecDepth 100000 in
set_option maxHeartbeats 1000000 in
theorem IndexFunc_anyIn (w0 : World) (B : Nat) (q : Int → Bool) (vl : Value) (l : List Int) (w : World) (hb0 : Below w0.heap.size w0 w) (hA : AsksIn w0 B q) (h : Row .i64 w vl l) (hl : l.length ≤ 1000000) :
    Calls Tryz.prog 51 #[vl, .func (.func 45) #[] #[.pointer (some ⟨B, 0, none⟩)]] w fun e w' => ∃ r : Int, e = .returned (.int .i64 r) ∧ First q l r ∧ Below w.heap.size w w' := by
  have HA := Lib.hid hA
  clear hA
  obtain ⟨a, cap, rfl⟩ := h.shape l.length rfl
  have HR := Lib.hid h
  clear h
  go_enter Tryz.func51, Tryz.ntmps51
  go_wp2_with fail
  go_loopw [5, 8] (fun _ i wr => ∃ k : Nat, i = .int .i64 k ∧ k ≤ l.length ∧ (∀ j, j < k → q (l[j]?.getD 0) = true) ∧ Below w.heap.size w wr) (fun _ i _ => l.length - (intOf i).toNat)
  case atStart => exact ⟨0, rfl, Nat.zero_le _, fun j hj => absurd hj (Nat.not_lt_zero _), Below.refl _ _⟩
  case round =>
    obtain ⟨k, rfl, hk, hall, hb⟩ := hrel
    have Hall := Lib.hid hall
    clear hall
    have k0 : (0 : Int) ≤ (k : Int) := by omega
    have e1 : IntKind.i64.wrap ((k : Int) + 1) = (k : Int) + 1 := IntWalk.i64_in _ (by omega)
    by_cases hlt : k < l.length
    · have k1 : (k : Int) < (l.length : Int) := by omega
      have hrw := HR.out.below hb
      obtain ⟨_, _, e', _, _, _, _, h5⟩ := hrw
      cases e'
      obtain ⟨b0, o0, rfl, hb00, hc0⟩ := h5 (by rintro rfl; simp at hlt)
      have hck := hc0 k hlt
      obtain ⟨x, hx⟩ : ∃ x, l[k]?.getD 0 = x := ⟨_, rfl⟩
      rw [hx] at hck
      have HX := Lib.hid hx
      clear hc0 h5 hx
      have hC := HA.out x wr (hb0.trans (hb.mono hb0.size))
      have hbs := hb.size
      cases hqx : q x with
      | true =>
        rw [hqx] at hC
        go_wp2_with fail
        refine hC.mono ?_; rintro e w2 ⟨rfl, hb2⟩
        have hb3 := hb.trans (hb2.mono hbs)
        have HQ := Lib.hid hqx
        clear hC hb2 hqx hck
        go_wp2_with fail
        go_roundw
        case rel =>
          refine ⟨k + 1, by go_num, by omega, fun j hj => ?_, hb3⟩
          rcases Nat.lt_or_ge j k with h | h
          · exact Hall.out j h
          · obtain rfl : j = k := by omega
            rw [HX.out]; exact HQ.out
        case measure => simp [intOf]; omega
      | false =>
        rw [hqx] at hC
        go_wp2_with fail
        refine hC.mono ?_; rintro e w2 ⟨rfl, hb2⟩
        have hb3 := hb.trans (hb2.mono hbs)
        have HQ := Lib.hid hqx
        clear hC hb2 hqx hck
        go_wp2_with fail
        go_ret
        exact ⟨k, rfl, .inr ⟨k, hlt, rfl, by rw [HX.out]; exact HQ.out, Hall.out⟩, hb3⟩
    · obtain rfl : k = l.length := by omega
      go_wp2_with fail
      go_ret
      exact ⟨-1, rfl, .inl ⟨rfl, Hall.out⟩, hb⟩

set_option maxRecDepth 100000 in
set_option maxHeartbeats 2000000 in
theorem DeleteFunc_anyIn (w0 : World) (B : Nat) (q : Int → Bool) (g cap : Nat) (l : List Int) (w : World) (hb0 : Below w0.heap.size w0 w) (hA : AsksIn w0 B q) (hwf : ∀ x ∈ l, (Lit.int .i64 x).wf = true)
    (h : w.ownsRow w0.heap.size 3 1 (.slice (some ⟨g, 0, none⟩) l.length cap) l.length (l.map (Value.int .i64))) (hl : l.length ≤ 1000000) :
    Calls Tryz.prog 19 #[.slice (some ⟨g, 0, none⟩) l.length cap, .func (.func 45) #[] #[.pointer (some ⟨B, 0, none⟩)]] w fun e w' =>
      e = .returned (.slice (some ⟨g, 0, none⟩) (l.filter q).length cap) ∧ w'.ownsRow w0.heap.size 3 1 (.slice (some ⟨g, 0, none⟩) (l.filter q).length cap) (l.filter q).length ((l.filter q).map (Value.int .i64)) ∧ Below w0.heap.size w0 w' := by
  have HA := Lib.hid hA
  have hgb : w0.heap.size ≤ g := own_above h rfl
  have hcap : l.length ≤ cap := by
    rcases h.2 with ⟨h1, _⟩ | ⟨_, _, _, h1, _, _, hnc, _⟩
    · cases h1
    · cases h1; exact hnc
  have hrow : Row .i64 w (.slice (some ⟨g, 0, none⟩) l.length cap) l := Row.of_owns h hwf
  have hI := IndexFunc_anyIn w0 B q _ l w hb0 hA hrow hl
  have HO := Lib.hid h; have HRo := Lib.hid hrow
  clear hA hrow h hwf
  go_enter Tryz.func19, Tryz.ntmps19
  go_wp2_with fail
  refine hI.mono ?_; rintro e w1 ⟨r, rfl, hF, hb1⟩
  clear hI
  have hw1 := hb0.trans (hb1.mono hb0.size)
  have own1 := owns_below HO.out hb1
  rcases hF with ⟨rfl, hall⟩ | ⟨k, hk, rfl, hf, ht⟩
  · have hfil : l.filter q = l := by
      rw [List.filter_eq_self]
      intro x hx
      obtain ⟨i, hi, rfl⟩ := List.getElem_of_mem hx
      have := hall i hi
      rw [List.getElem?_eq_getElem hi] at this; exact this
    have HFil := Lib.hid hfil
    clear hall hfil
    go_wp2_with fail
    go_ret
    rw [HFil.out]
    exact ⟨rfl, own1, hw1⟩
  · have hK := Keeping.start hk hf ht
    have HK := Lib.hid hK
    have e1 : IntKind.i64.wrap ((k : Int) + 1) = (k : Int) + 1 := IntWalk.i64_in _ (by omega)
    have hne : ¬ (k : Int) = -1 := by omega
    clear hf ht hK hb1
    go_wp2_with fail
    go_loopw [5, 6, 7] (fun iv jv _ wr => ∃ (i j : Nat) (R : List Int), iv = .int .i64 i ∧ jv = .int .i64 j ∧ j ≤ l.length ∧ Keeping q l R i j ∧ wr.ownsRow w0.heap.size 3 1 (.slice (some ⟨g, 0, none⟩) l.length cap) l.length (R.map (Value.int .i64)) ∧ Below w0.heap.size w0 wr) (fun _ jv _ _ => l.length - (intOf jv).toNat)
    case atStart => exact ⟨k, k + 1, l, rfl, by go_num, by omega, HK.out, own1, hw1⟩
    case round =>
      obtain ⟨i, j, R, rfl, rfl, hj, hKp, own, hb⟩ := hrel
      clear own1 hw1
      have hij := hKp.lt; have hRl := hKp.len
      have HKp := Lib.hid hKp
      have k0 : (0 : Int) ≤ (j : Int) := by omega
      have k2 : (0 : Int) ≤ (i : Int) := by omega
      have e2 : IntKind.i64.wrap ((j : Int) + 1) = (j : Int) + 1 := IntWalk.i64_in _ (by omega)
      have e3 : IntKind.i64.wrap ((i : Int) + 1) = (i : Int) + 1 := IntWalk.i64_in _ (by omega)
      clear hKp
      by_cases hlt : j < l.length
      · have k1 : (j : Int) < (l.length : Int) := by omega
        have k3 : (i : Int) < (l.length : Int) := by omega
        have hck := owns_cell64 own j (by omega)
        rw [HKp.out.high j (Nat.le_refl _)] at hck
        obtain ⟨x, hx⟩ : ∃ x, l[j]?.getD 0 = x := ⟨_, rfl⟩
        rw [hx] at hck
        have HX := Lib.hid hx
        clear hx
        have hC := HA.out x wr hb
        cases hqx : q x with
        | true =>
          rw [hqx] at hC
          go_wp2_with fail
          refine hC.mono ?_; rintro e w2 ⟨rfl, hb2⟩
          have hb3 := hb.trans (hb2.mono hb.size)
          have own2 := owns_below own hb2
          have hci := owns_cell64 own2 i (by omega)
          have hfi := owns_free own2 i
          have hK2 := HKp.out.keep hlt (by rw [HX.out]; exact hqx)
          rw [HX.out] at hK2
          have own3 := owns_set own2 i (.int .i64 x)
          rw [← List.map_set] at own3
          have hb4 := hb3.setCell (p := ⟨g, i, none⟩) hgb (.int .i64 x)
          have HK2 := Lib.hid hK2; have HO3 := Lib.hid own3; have HB4 := Lib.hid hb4
          clear hC hb2 hqx hck hK2 own3 own2 hb3 hb4 own
          go_wp2_with fail
          go_roundw
          case rel =>
            (repeat apply Exists.intro)
            refine ⟨?_, rfl⟩
            exact ⟨i + 1, j + 1, R.set i x, by go_num, by go_num, by omega, HK2.out, HO3.out, HB4.out⟩
          case measure => simp [intOf]; omega
        | false =>
          rw [hqx] at hC
          go_wp2_with fail
          refine hC.mono ?_; rintro e w2 ⟨rfl, hb2⟩
          have hb3 := hb.trans (hb2.mono hb.size)
          have own2 := owns_below own hb2
          have hK2 := HKp.out.skip hlt (by rw [HX.out]; exact hqx)
          have HK2 := Lib.hid hK2
          clear hC hb2 hqx hck hK2 own
          go_wp2_with fail
          go_roundw
          case rel =>
            (repeat apply Exists.intro)
            refine ⟨?_, rfl⟩
            exact ⟨i, j + 1, R, rfl, by go_num, by omega, HK2.out, own2, hb3⟩
          case measure => simp [intOf]; omega
      · obtain rfl : j = l.length := by omega
        have hlow := HKp.out.low
        rw [List.take_length] at hlow
        have hil : (l.filter q).length = i := by rw [← hlow]; simp; omega
        have hcl : ∀ ty, (Builtin.clear_ #[22] ty #[.slice (some ⟨g, i, none⟩) (l.length - i) (cap - i)]).run Tryz.prog wr = .ok (.tuple #[]) (wr.setCells g i (List.replicate (l.length - i) (.int .i64 0))) :=
          fun ty => Lib.run_clear_slice wr 22 3 ty (.int .i64 0) Tryz.underlying22 (fun _ => by kernel_rfl) rfl rfl g i _ _ (by omega) (fun t ht => by rw [owns_cell64 own (i + t) (by omega)]; rfl) (fun t ht => owns_free own (i + t))
        obtain ⟨xs', own2, htk⟩ := owns_setCells (List.replicate (l.length - i) (Value.int .i64 0)) i own
        have hb2 := below_setCells hgb (List.replicate (l.length - i) (Value.int .i64 0)) i hb
        have own3 := owns_take own2 i (by omega)
        rw [htk i (Nat.le_refl _), ← List.map_take, hlow] at own3
        have HO3 := Lib.hid own3; have HB2 := Lib.hid hb2; have HIl := Lib.hid hil
        have k3 : (i : Int) ≤ (l.length : Int) := by omega
        have k4 : (i : Int) ≤ (cap : Int) := by omega
        have k5 : ¬ cap = i := by omega
        clear own own2 own3 htk hlow hb2 hil
        go_wp2_with fail
        go_ret
        rw [HIl.out]
        refine ⟨rfl, ?_, HB2.out⟩
        have := HO3.out
        exact this
set_option maxRecDepth 100000 in
set_option maxHeartbeats 1000000 in
theorem DeleteFunc_noneIn (B : Nat) (w : World) :
    Calls Tryz.prog 19 #[.slice none 0 0, .func (.func 45) #[] #[.pointer (some ⟨B, 0, none⟩)]] w fun e w' => e = .returned (.slice none 0 0) ∧ Below w.heap.size w w' := by
  have hI : Calls Tryz.prog 51 #[.slice none 0 0, .func (.func 45) #[] #[.pointer (some ⟨B, 0, none⟩)]] w fun e w' => e = .returned (.int .i64 (-1)) ∧ Below w.heap.size w w' := by
    go_enter Tryz.func51, Tryz.ntmps51
    go_wp2_with fail
    refine wp_loop_rounds 1 ?_
    rw [rounds_succ]
    go_wp2_with fail
    go_ret
    exact ⟨rfl, Below.refl _ _⟩
  go_enter Tryz.func19, Tryz.ntmps19
  go_wp2_with fail
  refine hI.mono ?_; rintro e w1 ⟨rfl, hb1⟩
  go_wp2_with fail
  go_ret
  exact ⟨rfl, hb1⟩

end Go.Proofs.YtikgdpfnpcfkkaaGreatDoor
