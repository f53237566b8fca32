/-
  The walk over slices.IndexFunc where the function is revoke.rises's. (Printed by wip/gen_idx.py.)
-/
import Derived.Test.YtikgdpfnpcfkkaaGreatDoorYb
namespace Go.Proofs.YtikgdpfnpcfkkaaGreatDoor
open Go.RowKit

/-- What the closure answers, in whatever world behind w0. -/
def AsksOdd (w0 : World) (q : Int → Bool) : Prop :=
  ∀ n W, Below w0.heap.size w0 W → Calls Tryz.prog 71 #[.int .i64 n] W fun e W' => e = .returned (.bool (!q n)) ∧ Below W.heap.size W W'
set_option maxRecDepth 100000 in
set_option maxHeartbeats 1000000 in
theorem IndexFunc_anyOdd (w0 : World) (q : Int → Bool) (vl : Value) (l : List Int) (w : World) (hb0 : Below w0.heap.size w0 w) (hA : AsksOdd w0 q) (h : Row .i64 w vl l) (hl : l.length ≤ 1000000) :
    Calls Tryz.prog 51 #[vl, .func (.func 71) #[] #[]] w fun e w' => ∃ r : Int, e = .returned (.int .i64 r) ∧ First q l r ∧ Below w.heap.size w w' := by
  have HA := Lib.hid hA
  clear hA
  obtain ⟨a, cap, rfl⟩ := h.shape l.length rfl
  have HR := Lib.hid h
  clear h
  go_enter Tryz.func51, Tryz.ntmps51
  go_wp2_with fail
  go_loopw [5, 8] (fun _ i wr => ∃ k : Nat, i = .int .i64 k ∧ k ≤ l.length ∧ (∀ j, j < k → q (l[j]?.getD 0) = true) ∧ Below w.heap.size w wr) (fun _ i _ => l.length - (intOf i).toNat)
  case atStart => exact ⟨0, rfl, Nat.zero_le _, fun j hj => absurd hj (Nat.not_lt_zero _), Below.refl _ _⟩
  case round =>
    obtain ⟨k, rfl, hk, hall, hb⟩ := hrel
    have Hall := Lib.hid hall
    clear hall
    have k0 : (0 : Int) ≤ (k : Int) := by omega
    have e1 : IntKind.i64.wrap ((k : Int) + 1) = (k : Int) + 1 := IntWalk.i64_in _ (by omega)
    by_cases hlt : k < l.length
    · have k1 : (k : Int) < (l.length : Int) := by omega
      have hrw := HR.out.below hb
      obtain ⟨_, _, e', _, _, _, _, h5⟩ := hrw
      cases e'
      obtain ⟨b0, o0, rfl, hb00, hc0⟩ := h5 (by rintro rfl; simp at hlt)
      have hck := hc0 k hlt
      obtain ⟨x, hx⟩ : ∃ x, l[k]?.getD 0 = x := ⟨_, rfl⟩
      rw [hx] at hck
      have HX := Lib.hid hx
      clear hc0 h5 hx
      have hC := HA.out x wr (hb0.trans (hb.mono hb0.size))
      have hbs := hb.size
      cases hqx : q x with
      | true =>
        rw [hqx] at hC
        go_wp2_with fail
        refine hC.mono ?_; rintro e w2 ⟨rfl, hb2⟩
        have hb3 := hb.trans (hb2.mono hbs)
        have HQ := Lib.hid hqx
        clear hC hb2 hqx hck
        go_wp2_with fail
        go_roundw
        case rel =>
          refine ⟨k + 1, by go_num, by omega, fun j hj => ?_, hb3⟩
          rcases Nat.lt_or_ge j k with h | h
          · exact Hall.out j h
          · obtain rfl : j = k := by omega
            rw [HX.out]; exact HQ.out
        case measure => simp [intOf]; omega
      | false =>
        rw [hqx] at hC
        go_wp2_with fail
        refine hC.mono ?_; rintro e w2 ⟨rfl, hb2⟩
        have hb3 := hb.trans (hb2.mono hbs)
        have HQ := Lib.hid hqx
        clear hC hb2 hqx hck
        go_wp2_with fail
        go_ret
        exact ⟨k, rfl, .inr ⟨k, hlt, rfl, by rw [HX.out]; exact HQ.out, Hall.out⟩, hb3⟩
    · obtain rfl : k = l.length := by omega
      go_wp2_with fail
      go_ret
      exact ⟨-1, rfl, .inl ⟨rfl, Hall.out⟩, hb⟩

end Go.Proofs.YtikgdpfnpcfkkaaGreatDoor
