/-
  What is used of numbers of 64 bits in memory.
-/
import Derived.Test.YtlaidjgdipacgaaGreatDoorFo
import Derived.Test.YtlaidjgdipacgaaGreatDoorFw
import Derived.Test.YtlaidjgdipacgaaGreatDoorAp
namespace Go.Proofs.YtlaidjgdipacgaaGreatDoor
open Go.RowKit

theorem row_U64 {w : World} {v : Value} {l : List Int} (h : Row .u64 w v l) (j : Nat) : U64 (l[j]?.getD 0) := by
  obtain ⟨_, _, _, _, _, _, hw, _⟩ := h
  by_cases hj : j < l.length
  · rw [List.getElem?_eq_getElem hj]; exact U64.of_wf (hw _ (List.getElem_mem hj))
  · rw [List.getElem?_eq_none (by omega)]; exact ⟨by simp, by simp⟩

theorem info_u64 : (Tryz.prog.info? 25).map (fun i => (i.zero, i.size, i.bytes)) = some (some (.int .u64 0), 1, 8) := by kernel_rfl

theorem elem_wf (l : List Int) (hb : ∀ x ∈ l, byte x) (x : Int) (hx : x ∈ elems l) : (Lit.int .u64 x).wf = true := by
  unfold elems upto at hx
  obtain ⟨j, _, rfl⟩ := List.mem_map.1 hx
  have := elem_rng l hb j
  simp [Lit.wf, IntKind.min, IntKind.max, IntKind.bits, IntKind.signed]; omega
end Go.Proofs.YtlaidjgdipacgaaGreatDoor
