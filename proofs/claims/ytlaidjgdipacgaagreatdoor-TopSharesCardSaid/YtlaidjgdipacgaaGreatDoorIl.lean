/-
  What the listed variable gives the walks: the table of the kinds.
-/
import Derived.Test.YtlaidjgdipacgaaGreatDoorRows
import Derived.Test.YtlaidjgdipacgaaGreatDoorDa
import Derived.ProofKit
import Derived.LaidMore
import Derived.Lay
import Derived.Stop.Joined
namespace Go.Proofs.YtlaidjgdipacgaaGreatDoor
open Go.ChangeShapes Go.WideShapes Go.ChangeAt Go.RowKit

abbrev plainLaid : List (String × DataW Unit) := [("math/bits.deBruijn32tab", Rows.laid_math_bits_deBruijn32tab), ("math/bits.deBruijn64tab", Rows.laid_math_bits_deBruijn64tab), ("internal/strconv.uint64pow10", Rows.laid_internal_strconv_uint64pow10), ("unicode/utf8.acceptRanges", Rows.laid_unicode_utf8_acceptRanges), ("strconv.ErrRange", Rows.laid_strconv_ErrRange), ("strconv.ErrSyntax", Rows.laid_strconv_ErrSyntax), ("unicode/utf8.first", Rows.laid_unicode_utf8_first)]
abbrev kindsLaid : List (String × DataW Unit) := [("math/bits.deBruijn32tab", Rows.laid_math_bits_deBruijn32tab), ("math/bits.deBruijn64tab", Rows.laid_math_bits_deBruijn64tab), ("internal/strconv.uint64pow10", Rows.laid_internal_strconv_uint64pow10), ("unicode/utf8.acceptRanges", Rows.laid_unicode_utf8_acceptRanges), ("strconv.ErrRange", Rows.laid_strconv_ErrRange), ("strconv.ErrSyntax", Rows.laid_strconv_ErrSyntax), ("greatseal/der.kinds", Rows.laid_greatseal_der_kinds), ("unicode/utf8.first", Rows.laid_unicode_utf8_first)]
theorem gKinds : Tryz.prog.globalNamed "greatseal/der.kinds" = some 0 := by kernel_rfl
theorem tKinds : (Tryz.prog.globals[0]?).map (·.type) = some 150 := by kernel_rfl
/-- A start: the heap that the door's run leaves, the plain variables laid over it (a pinned table is not in the door's text). -/
noncomputable def topWorld (os : Os) : World := (World.doorLaid Tryz.prog 600 os).layVars Tryz.prog plainLaid
theorem topWorld_os (os : Os) : (topWorld os).os = os := World.layVars_os _ _ _
theorem plain_met (os : Os) : laidMet Tryz.prog plainLaid (topWorld os) := by
  have e1 : (plainLaid.filter fun x => (plainLaid.map (·.1)).contains x.1) = plainLaid := List.filter_eq_self.2 fun x hx => List.contains_iff_mem.2 (List.mem_map.2 ⟨x, hx, rfl⟩)
  have e2 : (plainLaid.filter fun x => !(plainLaid.map (·.1)).contains x.1) = [] := List.filter_eq_nil_iff.2 fun x hx => by rw [List.contains_iff_mem.2 (List.mem_map.2 ⟨x, hx, rfl⟩)]; simp
  exact laidMet_layVars (w0 := World.doorLaid Tryz.prog 600 os) (plainLaid.map (·.1)) [] (by rw [e1]; rfl) (by rw [e1]; kernel_rfl) (by rw [e1]; kernel_rfl) (by rw [e2]; exact LaidIn.none)
/-- That heap meets the condition. -/
theorem door_met (os : Os) (args : Array Value) : laidMetH Tryz.prog kindsLaid ((topWorld os).forCall (fun _ _ => 0) ⟨#[], args, []⟩).memory := by
  refine laidMetH_of_parts3 (fuel := 8) ?_ (by kernel_rfl) (by kernel_rfl)
  rw [show (kindsLaid.filter fun x => x.2.handleName?.isNone) = plainLaid by kernel_rfl]
  exact (plain_met os).of_heap (by simp [World.memory, World.forCall, Input.heap])
def kNm : Nat → List UInt8
  | 0 => [103, 114, 101, 97, 116, 115, 101, 97, 108, 47, 100, 101, 114, 46, 107, 105, 110, 100, 115, 36, 49]
  | 1 => [103, 114, 101, 97, 116, 115, 101, 97, 108, 47, 100, 101, 114, 46, 108, 101, 97, 115, 116]
  | 2 => [103, 114, 101, 97, 116, 115, 101, 97, 108, 47, 100, 101, 114, 46, 107, 105, 110, 100, 115, 36, 50]
  | 3 => [103, 114, 101, 97, 116, 115, 101, 97, 108, 47, 100, 101, 114, 46, 107, 105, 110, 100, 115, 36, 51]
  | _ => [103, 114, 101, 97, 116, 115, 101, 97, 108, 47, 100, 101, 114, 46, 107, 105, 110, 100, 115, 36, 52]
theorem kind_of {W : World} {m : Nat} {c0 c1 : Value} {t : Int} {f0 : FuncId} {b : UInt8} {r : List UInt8} {q : List MemPlace}
    (hone : ((List.range Tryz.prog.funcs.size).filter fun f => (Tryz.prog.funcs[f]?).any (·.name.toUTF8.data.toList == b :: r)) = [f0])
    (h : DataW.trod (funcToken Tryz.prog) Tryz.prog W 0 (fun _ => true) true m 111 [c0, c1] = some (.agg [.lit (.int .i64 t), .held (b :: r)], q)) : c0 = .int .i64 t ∧ c1 = .func (.func f0) #[] #[] := by
  obtain ⟨xs, n, rfl, hx, hcl, hxl, hf⟩ := DataW.trod_struct Tryz.underlying111 h
  have g0 := hf 0 _ rfl
  have g1 := hf 1 _ rfl
  have k0 : Tryz.prog.cellsOf 3 = 1 := by kernel_rfl
  have k1 : Tryz.prog.cellsOf 81 = 1 := by kernel_rfl
  match xs, hxl with
  | [x0, x1], _ =>
    have g0' : DataW.trod (funcToken Tryz.prog) Tryz.prog W 0 (fun _ => true) true n 3 [c0] = some x0 := by simpa [k0] using g0
    have g1' : DataW.trod (funcToken Tryz.prog) Tryz.prog W 0 (fun _ => true) true n 81 [c1] = some x1 := by simpa [k1] using g1
    simp only [Prod.mk.injEq, DataW.agg.injEq, List.map_cons, List.map_nil, List.cons.injEq, and_true] at hx
    obtain ⟨⟨e0, e1⟩, -⟩ := hx
    obtain ⟨k, h1, h2, _⟩ := DataW.trod_int Tryz.underlying3 g0'
    rw [h2] at e0
    simp only [DataW.lit.injEq, Lit.int.injEq, true_and] at e0
    subst e0
    obtain ⟨d1, q1⟩ := x1
    simp only at e1
    subst e1
    exact ⟨by simpa using h1, func_of_trod Tryz.underlying81 hone g1'⟩
set_option maxRecDepth 100000 in
theorem of_laid {W : World} (h : laidMetH Tryz.prog kindsLaid W) : KindsAt W := by
  obtain ⟨g, t, cs, fuel, p, hg, ht, hv, hd⟩ := h.funcs (show ("greatseal/der.kinds", Rows.laid_greatseal_der_kinds) ∈ kindsLaid from .tail _ (.tail _ (.tail _ (.tail _ (.tail _ (.tail _ (.head _)))))))
  obtain rfl := Option.some.inj (gKinds.symm.trans hg)
  obtain rfl := Option.some.inj (tKinds.symm.trans ht)
  have hd' : DataW.trod (funcToken Tryz.prog) Tryz.prog W 0 (fun _ => true) true fuel 150 cs.toList = some (.agg [.agg [.lit (.int .i64 (kTag 0)), .held (kNm 0)], .agg [.lit (.int .i64 (kTag 1)), .held (kNm 1)], .agg [.lit (.int .i64 (kTag 2)), .held (kNm 2)], .agg [.lit (.int .i64 (kTag 3)), .held (kNm 3)], .agg [.lit (.int .i64 (kTag 4)), .held (kNm 4)]], p) := hd
  obtain ⟨xs, m, rfl, hx1, hlen, hn5, hel⟩ := DataW.trod_array Tryz.underlying150 hd'
  have hc2 : Tryz.prog.cellsOf 111 = 2 := by kernel_rfl
  have hc10 : Tryz.prog.cellsOf 150 = 10 := by kernel_rfl
  rw [hc10] at hlen
  have hcell := fun i => World.var?_cell hg hv i
  obtain ⟨cl⟩ := cs
  match cl, hlen with
  | [a0, b0, a1, b1, a2, b2, a3, b3, a4, b4], _ =>
    match xs, hn5 with
    | [x0, x1, x2, x3, x4], _ =>
      simp only [Prod.mk.injEq, DataW.agg.injEq, List.map_cons, List.map_nil, List.cons.injEq, and_true] at hx1
      obtain ⟨⟨e0, e1, e2, e3, e4⟩, -⟩ := hx1
      have h0 := hel 0 (by decide); have h1 := hel 1 (by decide); have h2 := hel 2 (by decide); have h3 := hel 3 (by decide); have h4 := hel 4 (by decide)
      rw [hc2] at h0 h1 h2 h3 h4
      obtain ⟨d0, q0⟩ := x0; obtain ⟨d1, q1⟩ := x1; obtain ⟨d2, q2⟩ := x2; obtain ⟨d3, q3⟩ := x3; obtain ⟨d4, q4⟩ := x4
      simp only at e0 e1 e2 e3 e4
      subst e0 e1 e2 e3 e4
      obtain ⟨rfl, rfl⟩ := kind_of (f0 := kFn 0) (by kernel_rfl) (show DataW.trod _ Tryz.prog W 0 _ true m 111 [a0, b0] = some (_, q0) from h0)
      obtain ⟨rfl, rfl⟩ := kind_of (f0 := kFn 1) (by kernel_rfl) (show DataW.trod _ Tryz.prog W 0 _ true m 111 [a1, b1] = some (_, q1) from h1)
      obtain ⟨rfl, rfl⟩ := kind_of (f0 := kFn 2) (by kernel_rfl) (show DataW.trod _ Tryz.prog W 0 _ true m 111 [a2, b2] = some (_, q2) from h2)
      obtain ⟨rfl, rfl⟩ := kind_of (f0 := kFn 3) (by kernel_rfl) (show DataW.trod _ Tryz.prog W 0 _ true m 111 [a3, b3] = some (_, q3) from h3)
      obtain ⟨rfl, rfl⟩ := kind_of (f0 := kFn 4) (by kernel_rfl) (show DataW.trod _ Tryz.prog W 0 _ true m 111 [a4, b4] = some (_, q4) from h4)
      intro i hi
      match i, hi with
      | 0, _ => exact ⟨hcell 0, hcell 1⟩
      | 1, _ => exact ⟨hcell 2, hcell 3⟩
      | 2, _ => exact ⟨hcell 4, hcell 5⟩
      | 3, _ => exact ⟨hcell 6, hcell 7⟩
      | 4, _ => exact ⟨hcell 8, hcell 9⟩
end Go.Proofs.YtlaidjgdipacgaaGreatDoor
