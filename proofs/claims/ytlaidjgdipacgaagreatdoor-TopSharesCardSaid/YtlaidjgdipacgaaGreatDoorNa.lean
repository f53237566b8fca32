/-
  Walks over names: labels of one byte.
-/
import Derived.Test.YtlaidjgdipacgaaGreatDoorSh4
import Derived.Test.YtlaidjgdipacgaaGreatDoorCn
namespace Go.Proofs.YtlaidjgdipacgaaGreatDoor
open Go.RowKit

def lower1 (c : Int) : Bool := decide ((97 ≤ c ∧ c ≤ 122) ∨ (48 ≤ c ∧ c ≤ 57))
theorem edge_any (c : Int) (w : World) : Calls Tryz.prog 144 #[.int .i32 c] w fun e w' => e = .returned (.bool (lower1 c)) ∧ w' = w := by
  unfold lower1
  by_cases h1 : 97 ≤ c <;> by_cases h2 : c ≤ 122 <;> by_cases h3 : 48 ≤ c <;> by_cases h4 : c ≤ 57 <;>
  · go_enter Tryz.func144, Tryz.ntmps144
    go_wp2
    go_ret
    exact ⟨by simp [h1, h2, h3, h4], rfl⟩
theorem next_one (c : UInt8) (hc : c.toNat < 128) (w : World) (ty : TypeId) : (Instr.next (.pointer (some ⟨w.heap.size, 0, none⟩)) true ty).run Tryz.prog (w.iter ⟨#[c]⟩ 0) = .ok (.tuple #[.bool true, .int .i64 0, .int .i32 (c.toNat : Nat)]) (w.iter ⟨#[c]⟩ 1) :=
  run_next_ascii w ⟨#[c]⟩ 0 ty (show 0 < 1 by decide) hc
theorem next_done (c : UInt8) (w : World) (ty : TypeId) : (Instr.next (.pointer (some ⟨w.heap.size, 0, none⟩)) true ty).run Tryz.prog (w.iter ⟨#[c]⟩ 1) = .ok (.tuple #[.bool false]) (w.iter ⟨#[c]⟩ 1) :=
  run_next_end w ⟨#[c]⟩ 1 ty (show ¬ 1 < 1 by decide)
theorem below_iter1 (w : World) (s : ByteArray) (p : Nat) : Below w.heap.size w (w.iter s p) := (Below.refl _ _).alloc (Nat.le_refl _) _
set_option maxRecDepth 100000 in
/-- A text of one byte. -/
theorem label_one (c : UInt8) (hc : c.toNat < 128) (w : World) : Calls Tryz.prog 116 #[.string ⟨#[c]⟩] w fun e w' => e = .returned (.bool (lower1 (c.toNat : Nat))) ∧ Below w.heap.size w w' := by
  have hn0 := next_one c hc w
  have hn1 := next_done c w
  have E := fun W => edge_any (c.toNat : Nat) W
  obtain ⟨b, hb⟩ : ∃ b, lower1 (c.toNat : Nat) = b := ⟨_, rfl⟩
  rw [hb] at E ⊢
  have HB := below_iter1 w ⟨#[c]⟩ 1
  clear hb
  cases b with
  | true =>
    go_enter Tryz.func116, Tryz.ntmps116
    go_wp2_with fail
    refine wp_loop_rounds 2 ?_
    rw [rounds_succ]
    go_wp2_with fail
    refine (E _).mono ?_; rintro e w1 ⟨rfl, rfl⟩
    go_wp2_with fail
    rw [rounds_succ]
    go_wp2_with fail
    go_ret
    exact ⟨rfl, HB⟩
  | false =>
    go_enter Tryz.func116, Tryz.ntmps116
    go_wp2_with fail
    refine wp_loop_rounds 2 ?_
    rw [rounds_succ]
    go_wp2_with fail
    refine (E _).mono ?_; rintro e w1 ⟨rfl, rfl⟩
    go_wp2_with fail
    go_ret
    exact ⟨rfl, HB⟩
end Go.Proofs.YtlaidjgdipacgaaGreatDoor
