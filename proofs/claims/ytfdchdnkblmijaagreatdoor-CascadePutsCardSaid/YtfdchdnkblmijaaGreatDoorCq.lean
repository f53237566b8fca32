/-
  A cascade that came in: opened.
-/
import Derived.Test.YtfdchdnkblmijaaGreatDoorYc
import Derived.Deep.SlicePairs
import Derived.Lib.SmallJoins
import Derived.ChangeArms
namespace Go.Proofs.YtfdchdnkblmijaaGreatDoor
open Go.RowKit Go.ChangeShapes Go.WideShapes Go.Joins

instance : Inhabited Sm.Sv := ⟨Cm.nil⟩
set_option maxRecDepth 100000 in
theorem sv_of_trod {H : Type} {enc : TypeId × Value → H} {W : World} {base : Nat} {held : Bool} {fuel : Nat} {cs : List Value} {y : DataW H × List MemPlace} (h : DataW.trod enc Tryz.prog W base (fun _ => true) held fuel 41 cs = some y) :
    ∃ (s : Sm.Sv) (vb : Value), cs = [.int .i64 s.bits, .int .i64 s.hashes, .int .i64 s.salt, vb] ∧ Row .u8 W vb s.b := by
  obtain ⟨xs, n, rfl, _, hcl, hxl, hf⟩ := DataW.trod_struct Tryz.underlying41 h
  have e4 : Tryz.prog.cellsOf 41 = 4 := by kernel_rfl
  rw [e4] at hcl
  match cs, hcl with
  | [v0, v1, v2, v3], _ =>
    have g0 := hf 0 _ rfl
    have g1 := hf 1 _ rfl
    have g2 := hf 2 _ rfl
    have g3 := hf 3 _ rfl
    have c0 : Tryz.prog.cellsOf 3 = 1 := by kernel_rfl
    have c1 : Tryz.prog.cellsOf 25 = 1 := by kernel_rfl
    match xs, hxl with
    | [x0, x1, x2, x3], _ =>
      have g0' : DataW.trod enc Tryz.prog W base (fun _ => true) held n 3 [v0] = some x0 := by simpa [c0] using g0
      have g1' : DataW.trod enc Tryz.prog W base (fun _ => true) held n 3 [v1] = some x1 := by simpa [c0] using g1
      have g2' : DataW.trod enc Tryz.prog W base (fun _ => true) held n 3 [v2] = some x2 := by simpa [c0] using g2
      have g3' : DataW.trod enc Tryz.prog W base (fun _ => true) held n 25 [v3] = some x3 := by simpa [c1] using g3
      obtain ⟨t0, et0, _, _⟩ := DataW.trod_int Tryz.underlying3 g0'
      obtain ⟨t1, et1, _, _⟩ := DataW.trod_int Tryz.underlying3 g1'
      obtain ⟨t2, et2, _, _⟩ := DataW.trod_int Tryz.underlying3 g2'
      obtain rfl : v0 = .int .i64 t0 := by simpa using et0
      obtain rfl : v1 = .int .i64 t1 := by simpa using et1
      obtain rfl : v2 = .int .i64 t2 := by simpa using et2
      obtain ⟨bs, rb⟩ := row_of_trod Tryz.underlying25 Tryz.underlying5 (by kernel_rfl) g3'
      exact ⟨⟨t0, t1, t2, bs⟩, v3, rfl, rb⟩
set_option maxRecDepth 100000 in
theorem svs_of_trod {H : Type} {enc : TypeId × Value → H} {W : World} {base : Nat} {held : Bool} {n : Nat} {v : Value} {y : DataW H × List MemPlace} (h : DataW.trod enc Tryz.prog W base (fun _ => true) held n 22 [v] = some y) : ∃ ls : List Sm.Sv, Svs W v ls := by
  have e4 : Tryz.prog.cellsOf 41 = 4 := by kernel_rfl
  rcases DataW.trod_slice Tryz.underlying22 h with ⟨hcs, _⟩ | ⟨a, len, cap, elems, rest, m, rfl, hcs, _, hb, hl, hm, hlen, hel, _, _⟩
  · obtain rfl : v = .slice none 0 0 := by simpa using hcs
    exact ⟨[], Svs.nil _⟩
  · obtain rfl : v = .slice (some a) len cap := by simpa using hcs
    by_cases h0 : len = 0
    · subst h0
      exact ⟨[], some a, cap, rfl, Nat.zero_le _, hm, (fun h => by cases h), fun h => absurd rfl h⟩
    have hs : a.spot = none := by
      have h1 := hel 0 (by omega)
      rw [List.getElem?_eq_getElem (by omega : 0 < elems.length), e4] at h1
      obtain ⟨cs', k1, k2⟩ := Option.bind_eq_some_iff.1 h1
      obtain ⟨s, vb, rfl, _⟩ := sv_of_trod k2
      obtain ⟨_, _, hcell⟩ := World.cells?_some k1
      have q0 : W.cell? ((a.add (0 * 4)).add 0) = some (.int .i64 s.bits) := hcell 0 (by omega)
      simpa [Addr.add] using World.cell?_spot q0
    obtain ⟨b, o, s⟩ := a
    simp only at hs
    subst hs
    have each : ∀ i, i < len → ∃ s : Sm.Sv, ∃ vb, Row .u8 W vb s.b ∧ W.cell? ⟨b, o + i * 4, none⟩ = some (.int .i64 s.bits) ∧ W.cell? ⟨b, o + i * 4 + 1, none⟩ = some (.int .i64 s.hashes) ∧
        W.cell? ⟨b, o + i * 4 + 2, none⟩ = some (.int .i64 s.salt) ∧ W.cell? ⟨b, o + i * 4 + 3, none⟩ = some vb := by
      intro i hi
      have h1 := hel i hi
      rw [List.getElem?_eq_getElem (by omega : i < elems.length), e4] at h1
      obtain ⟨cs', k1, k2⟩ := Option.bind_eq_some_iff.1 h1
      obtain ⟨s, vb, rfl, rb⟩ := sv_of_trod k2
      obtain ⟨_, _, hcell⟩ := World.cells?_some k1
      have q0 := hcell 0 (by omega)
      have q1 := hcell 1 (by omega)
      have q2 := hcell 2 (by omega)
      have q3 := hcell 3 (by omega)
      rw [addr_add, addr_add] at q0 q1 q2 q3
      exact ⟨s, vb, rb, by simpa using q0, by simpa using q1, by simpa using q2, by simpa using q3⟩
    obtain ⟨q, hq⟩ := Go.Deep.choose_lt each
    have hll : ((List.range len).map q).length = len := by simp
    have hget : ∀ i, i < len → ((List.range len).map q)[i]?.getD Cm.nil = q i := fun i hi => by simp [hi]
    refine ⟨(List.range len).map q, some ⟨b, o, none⟩, cap, by rw [hll], by rw [hll]; exact hl, hm, (fun h => by cases h), fun _ => ⟨b, o, rfl, ?_, fun i hi => ?_⟩⟩
    · obtain ⟨vb, _, z0, _⟩ := hq 0 (by omega)
      exact World.block_lt_of_cell? W _ z0
    · have hi' : i < len := by rw [← hll]; exact hi
      rw [hget i hi']; exact hq i hi'
set_option maxRecDepth 100000 in
/-- A cascade, by its values. -/
theorem cascade_open {H : Type} {enc : TypeId × Value → H} {W : World} {b0 base : Nat} {v : Value} {d : DataW H} {p : List MemPlace} (hv : Value.okWide Tryz.prog W .any b0 24 v)
    (h : DataW.Trod enc Tryz.prog W base (fun _ => true) true 24 v d p) : ∃ (day : Int) (vl : Value) (ls : List Sm.Sv), v = .agg #[.int .i64 day, vl] ∧ (Lit.int .i64 day).wf = true ∧ Svs W vl ls := by
  obtain ⟨v0, v1, y0, y1, n, rfl, -, -, t0, t1⟩ := open_agg2 Tryz.underlying24 (by kernel_rfl) (by kernel_rfl) hv h
  obtain ⟨n0, e0, -, w0⟩ := DataW.trod_int Tryz.underlying3 t0
  obtain rfl : v0 = .int .i64 n0 := by simpa using e0
  obtain ⟨ls, hs⟩ := svs_of_trod t1
  exact ⟨n0, v1, ls, rfl, w0, hs⟩
end Go.Proofs.YtfdchdnkblmijaaGreatDoor
