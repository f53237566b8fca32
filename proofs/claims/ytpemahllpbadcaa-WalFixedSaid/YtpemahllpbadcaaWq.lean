/-
  A store, and a slice of slices of bytes, that came in: opened.
-/
import Derived.Test.YtpemahllpbadcaaWo
namespace Go.Proofs.Ytpemahllpbadcaa
open Go.RowKit Go.ChangeShapes Go.WideShapes

theorem sto_open {H : Type} {enc : TypeId × Value → H} {W : World} {b0 base : Nat} {v : Value} {d : DataW H} {p : List MemPlace} (hv : Value.okWide Try.prog W .any b0 24 v)
    (h : DataW.Trod enc Try.prog W base (fun _ => true) true 24 v d p) : ∃ x : List Int × List Int, Sto W v x := by
  obtain ⟨v0, v1, l0, l1, e, r0, r1⟩ := pair_of_trod _ _ Try.underlying24 (by kernel_rfl) (by kernel_rfl) Try.underlying22 Try.underlying22 Try.underlying5 (by kernel_rfl) hv h
  exact ⟨(l0, l1), v0, v1, e, r0, r1⟩
theorem rws_open {H : Type} {enc : TypeId × Value → H} {W : World} {b0 base : Nat} {v : Value} {d : DataW H} {p : List MemPlace} (_hv : Value.okWide Try.prog W .any b0 34 v)
    (h : DataW.Trod enc Try.prog W base (fun _ => true) true 34 v d p) : ∃ ls, Rws .u8 W v ls := by
  obtain ⟨fuel, hf⟩ := h
  obtain ⟨a, n, c, rfl⟩ := okWide_slice Try.underlying34 _hv
  exact rows_of_trod Try.underlying34 Try.underlying22 Try.underlying5 (by kernel_rfl) (by kernel_rfl) hf
end Go.Proofs.Ytpemahllpbadcaa
