/-
  The walk over layer 10's rises.
-/
import Derived.Test.YtfdchdnkblmijaaDoorKl
import Derived.Deep.QuietTactic
import Derived.BigQuiet
namespace Go.Proofs.YtfdchdnkblmijaaDoor
open Go.RowKit

set_option maxRecDepth 100000 in
set_option maxHeartbeats 4000000 in
theorem lrises_any (v : Value) (l : List Int) (w : World) (h : Row .i64 w v l) (hl : l.length ≤ 1000000) :
    Calls Tryd.prog 12 #[v] w fun e w' => e = .returned (.bool (decide (Rv.rises l))) ∧ Below w.heap.size w w' := by
  obtain ⟨a, cap, rfl⟩ := h.shape l.length rfl
  obtain ⟨n, hn⟩ : ∃ n, l.length = n := ⟨_, rfl⟩
  obtain ⟨Z, hZ⟩ : ∃ Z, decide (Rv.rises l) = Z := ⟨_, rfl⟩
  rw [hn] at h hl ⊢
  rw [hZ]
  have H := Lib.hid h; have HN := Lib.hid hn; have HZ := Lib.hid hZ
  clear h hn hZ
  go_enter Tryd.func12, Tryd.ntmps12
  go_wp2_with fail
  go_loopw [3] (fun i wr => ∃ (k : Nat) (m : Int), i = .int .i64 k ∧ k ≤ n ∧ Fine l k m ∧ Before l k m ∧ Below w.heap.size w wr) (fun i _ => n - (intOf i).toNat)
  case atStart => exact ⟨0, -1, rfl, Nat.zero_le _, ⟨by omega, by simp [Rv.rises], by simp⟩, ⟨fun _ => rfl, fun j e => by omega⟩, Below.refl _ _⟩
  case round =>
    obtain ⟨k, m, rfl, hk, hF, hBf, hb⟩ := hrel
    have HF := Lib.hid hF; have HBf := Lib.hid hBf; have HB := Lib.hid hb
    have k0 : (0 : Int) ≤ (k : Int) := by omega
    have e1 : IntKind.i64.wrap ((k : Int) + 1) = (k : Int) + 1 := IntWalk.i64_in _ (by omega)
    by_cases hlt : k < n
    · obtain ⟨b0, o0, rfl, hbl, hck⟩ := (H.out.below hb).cellAt k (by rw [HN.out]; exact hlt)
      obtain ⟨x, hx⟩ : ∃ x, l[k]?.getD 0 = x := ⟨_, rfl⟩
      rw [hx] at hck
      have HX := Lib.hid hx
      have k1 : (k : Int) < (n : Int) := by omega
      have hl' : k < l.length := by rw [HN.out]; exact hlt
      have hno : ¬ (m < x ∧ Sm.right x) → Z = false := fun h => by rw [← HZ.out]; exact decide_eq_false (Fine.not hl' HX.out HBf.out.1 HBf.out.2 h)
      have HNo := Lib.hid hno; have HL' := Lib.hid hl'
      have HRow := Lib.hid (H.out.below hb)
      clear hF hBf hb hx hno hl'
      by_cases h1 : x < 0
      · have hz := HNo.out (fun h => by have := h.2.1; omega)
        have HZ2 := Lib.hid hz
        clear hz
        go_wp2_with fail
        go_quiet (fail)
        go_wp2_with fail
        go_ret
        rw [HZ2.out]
        exact ⟨rfl, bel_drewN HB.out _⟩
      have h1' : decide (x < 0) = false := decide_eq_false h1
      by_cases h2 : 1099511627776 < x
      · have hz := HNo.out (fun h => by have := h.2.2; omega)
        have HZ2 := Lib.hid hz
        clear hz
        go_wp2_with fail
        go_quiet (fail)
        go_wp2_with fail
        go_ret
        rw [HZ2.out]
        exact ⟨rfl, bel_drewN HB.out _⟩
      have h2' : decide (1099511627776 < x) = false := decide_eq_false h2
      have hr : Sm.right x := ⟨by omega, by omega⟩
      have HR := Lib.hid hr
      clear hr h1 h2
      cases k with
      | zero =>
        have hm : m = -1 := HBf.out.1 rfl
        rw [Nat.add_zero] at hck
        have hF2 := HF.out.snoc HL'.out HX.out (by rw [hm]; have := HR.out.1; omega) HR.out
        have HF2 := Lib.hid hF2
        have e0 : IntKind.i64.wrap 1 = 1 := by decide
        clear hF2 hm
        go_wp2_with fail
        go_quiet (fail)
        go_wp2_with fail
        go_roundw
        case rel => exact ⟨1, x, by go_num, by omega, HF2.out, before_snoc HX.out, bel_drewN HB.out _⟩
        case measure => simp [intOf]; omega
      | succ j =>
        have hm := HBf.out.2 j rfl
        obtain ⟨b1, o1, e1', -, hcj⟩ := HRow.out.cellAt j (by have := HL'.out; omega)
        cases e1'
        rw [hm] at hcj
        have ej : IntKind.i64.wrap ((j : Int) + 1 - 1) = (j : Int) := by rw [show (j : Int) + 1 - 1 = (j : Int) by omega]; exact IntWalk.i64_in _ (by omega)
        have ej' : IntKind.i64.wrap (j : Int) = (j : Int) := IntWalk.i64_in _ (by omega)
        have j0 : (0 : Int) ≤ (j : Int) := by omega
        have j1 : (j : Int) < (n : Int) := by omega
        have jp : (0 : Int) < (j : Int) + 1 := by omega
        clear hm
        by_cases h3 : x ≤ m
        · have hz := HNo.out (fun h => by have := h.1; omega)
          have HZ2 := Lib.hid hz
          clear hz
          go_wp2_with fail
          go_quiet (fail)
          go_wp2_with fail
          go_ret
          rw [HZ2.out]
          exact ⟨rfl, bel_drewN HB.out _⟩
        · have h3' : decide (x ≤ m) = false := decide_eq_false h3
          have hF2 := HF.out.snoc HL'.out HX.out (by omega) HR.out
          have HF2 := Lib.hid hF2
          clear hF2 h3
          go_wp2_with fail
          go_quiet (fail)
          go_wp2_with fail
          go_roundw
          case rel => exact ⟨j + 1 + 1, x, by go_num, by omega, HF2.out, before_snoc HX.out, bel_drewN HB.out _⟩
          case measure => simp [intOf]; omega
    · obtain rfl : k = n := by omega
      have hz : Z = true := by
        have h := HF.out.2.1
        rw [← HN.out, List.take_length] at h
        rw [← HZ.out]; exact decide_eq_true h
      have HZ2 := Lib.hid hz
      clear hz hF hBf
      go_wp2_with fail
      go_ret
      rw [HZ2.out]
      exact ⟨rfl, hb⟩
end Go.Proofs.YtfdchdnkblmijaaDoor
