/-
  A store, and a slice of slices of bytes, that came in: opened.
-/
import Derived.Test.YtiijlakilogekaaWo
import Derived.SizedLaws
namespace Go.Proofs.Ytiijlakilogekaa
open Go.RowKit Go.ChangeShapes Go.WideShapes

theorem sto_open {H : Type} {enc : TypeId × Value → H} {W : World} {b0 base : Nat} {v : Value} {d : DataW H} {p : List MemPlace} (hv : Value.okWide Try.prog W .any b0 24 v)
    (h : DataW.Trod enc Try.prog W base (fun _ => true) true 24 v d p) : ∃ x : List Int × List Int, Sto W v x := by
  obtain ⟨v0, v1, l0, l1, e, r0, r1⟩ := pair_of_trod _ _ Try.underlying24 (by kernel_rfl) (by kernel_rfl) Try.underlying22 Try.underlying22 Try.underlying5 (by kernel_rfl) hv h
  exact ⟨(l0, l1), v0, v1, e, r0, r1⟩
theorem rws_open {H : Type} {enc : TypeId × Value → H} {W : World} {b0 base : Nat} {v : Value} {d : DataW H} {p : List MemPlace} (_hv : Value.okWide Try.prog W .any b0 35 v)
    (h : DataW.Trod enc Try.prog W base (fun _ => true) true 35 v d p) : ∃ ls, Rws .u8 W v ls := by
  obtain ⟨fuel, hf⟩ := h
  obtain ⟨a, n, c, rfl⟩ := okWide_slice Try.underlying35 _hv
  exact rows_of_trod Try.underlying35 Try.underlying22 Try.underlying5 (by kernel_rfl) (by kernel_rfl) hf
/-- Slices of slices, none of which is longer than memory. -/
def RwsUp (W : World) (v : Value) (ls : List (List Int)) : Prop := Rws .u8 W v ls ∧ ∀ i, i < ls.length → (ls[i]?.getD []).length ≤ 140737488355328
theorem weightsAll_mem {H : Type} {P : Program} {e : TypeId} : ∀ {l : List (DataW H)} {d : DataW H}, d ∈ l → ∀ n ∈ d.weights P e, n ∈ DataW.weightsAll P e l
  | d0 :: l, d, hd, n, hn => by
    simp only [DataW.weightsAll, List.mem_append]
    rcases List.mem_cons.1 hd with rfl | h
    · exact Or.inl hn
    · exact Or.inr (weightsAll_mem h n hn)
section
open Go.Deep Go.Joins
variable {H : Type} {enc : TypeId × Value → H} {P : Program} {w : World} {held : Bool}
theorem rows_of_trod_sized {base : Nat} {t e q : TypeId} {k : IntKind} {fuel : Nat} {v : Value} {d : DataW H} {p : List MemPlace} (ht : P.underlying t = some (.slice e)) (he : P.underlying e = some (.slice q)) (hq : P.underlying q = some (.int k))
    (ce : P.cellsOf e = 1) (cq : P.cellsOf q = 1) (bq : P.bytesOf q = 1) (h : DataW.trod enc P w base (fun _ => true) held fuel t [v] = some (d, p)) (hw : ∀ n ∈ d.weights P t, n ≤ reachBytes) :
    ∃ ls, Rws k w v ls ∧ ∀ i, i < ls.length → (ls[i]?.getD []).length ≤ 140737488355328 := by
  have h0 := h
  rcases open_int_rows ht he hq ce cq h with ⟨hcs, _⟩ | ⟨a, len, cap, A, L, C, Z, hcs, _, hl, hm, hx, hc⟩
  · obtain rfl : v = .slice none 0 0 := by simpa using hcs
    exact ⟨[], Rws.nil _ _, fun i hi => absurd hi (Nat.not_lt_zero _)⟩
  · obtain rfl : v = .slice (some a) len cap := by simpa using hcs
    have hd : d = (.slice ((List.range len).map fun r => intRow k (A r) (L r) (Z r)) ((List.range (cap - len)).map fun j => intRow k (A (len + j)) (L (len + j)) (Z (len + j)))) := congrArg Prod.fst hx
    subst hd
    have hs : ∀ r, r < len → L r ≤ 140737488355328 := by
      intro r hr
      obtain ⟨_, r1, r2, r3, r4, r5, r6⟩ := hc r (by omega)
      cases hA : A r with
      | none => have := r5 hA; omega
      | some a' =>
        have hmem : ((Z r).length * P.bytesOf q) ∈ (intRow k (A r) (L r) (Z r) : DataW H).weights P e := by
          rw [hA]
          simp only [intRow, DataW.weights, he]
          refine List.mem_cons.2 (.inl ?_)
          congr 1
          simp only [lits, List.length_map, List.length_take, List.length_drop]
          omega
        have h2 := hw _ (by
          simp only [DataW.weights, ht]
          refine List.mem_cons.2 (.inr (List.mem_append.2 (.inl (weightsAll_mem (List.mem_map.2 ⟨r, List.mem_range.2 hr, rfl⟩) _ hmem))))) 
        rw [bq, Nat.mul_one] at h2
        unfold reachBytes at h2
        omega
    obtain ⟨ls, hls⟩ := rows_of_trod ht he hq ce cq h0
    refine ⟨ls, hls, fun i hi => ?_⟩
    obtain ⟨a1, c1, V, e1, q1, q2, q3, q4, q5⟩ := hls
    cases e1
    obtain ⟨b, off, e2, hb, hcell⟩ := q4 (by rintro rfl; simp at hi)
    cases e2
    have g1 := hcell i hi
    have g2 := (hc i (by omega)).1
    rw [addr_add, g1] at g2
    obtain ⟨a3, c3, e3, -⟩ := q5 i hi
    rw [e3] at g2
    injection g2 with g2
    injection g2 with _ g2
    rw [g2]
    exact hs i hi
end
theorem rws_up {H : Type} {enc : TypeId × Value → H} {W : World} {b0 base : Nat} {v : Value} {d : DataW H} {p : List MemPlace} (hv : Value.okWide Try.prog W .any b0 35 v)
    (h : DataW.Trod enc Try.prog W base (fun _ => true) true 35 v d p) (hw : ∀ n ∈ d.weights Try.prog 35, n ≤ reachBytes) : ∃ ls, RwsUp W v ls := by
  obtain ⟨fuel, hf⟩ := h
  obtain ⟨a, n, c, rfl⟩ := okWide_slice Try.underlying35 hv
  exact rows_of_trod_sized Try.underlying35 Try.underlying22 Try.underlying5 (by kernel_rfl) (by kernel_rfl) (by kernel_rfl) hf hw
end Go.Proofs.Ytiijlakilogekaa
