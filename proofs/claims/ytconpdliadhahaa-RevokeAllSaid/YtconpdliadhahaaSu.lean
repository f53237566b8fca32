/-
  Walks over slices.Clone (bytes, numbers), sieve.New, sieve.Put.
-/
import Derived.Test.YtconpdliadhahaaSt
import Derived.Test.YtconpdliadhahaaRs
namespace Go.Proofs.Ytconpdliadhahaa
open Go.RowKit

theorem info_i64 : (Try.prog.info? 3).map (fun i => (i.zero, i.size, i.bytes)) = some (some (.int .i64 0), 1, 8) := by kernel_rfl

set_option maxHeartbeats 400000 in
theorem Clone64_any (v : Value) (l : List Int) (w : World) (h : Row .i64 w v l) (hlen : l.length ≤ 10000000) :
    Calls Try.prog 38 #[v] w fun e w' => ∃ r, e = .returned r ∧ w'.ownsRow w.heap.size 3 1 r l.length (l.map (Value.int .i64)) ∧ Below w.heap.size w w' := by
  obtain ⟨i0, hi, hz0, hz1, hz2⟩ := info_parts info_i64
  have H := Lib.hid h
  obtain ⟨a, cap, rfl, hl, hc, h0, -, hr⟩ := h
  have hq := Lib.run_eql_slice_nil (P := Try.prog) (t := 22) (e := 3)
  cases a with
  | none =>
    obtain rfl : cap = 0 := h0 rfl
    obtain rfl : l = [] := List.length_eq_zero_iff.1 (by omega)
    clear h0 hr
    go_enter Try.func38, Try.ntmps38
    go_wp2
    go_ret
    exact ⟨_, rfl, World.ownsRow_nil _ _ _ _, Below.refl _ _⟩
  | some ad =>
    clear h0 hr
    go_enter Try.func38, Try.ntmps38
    go_wp2_with (at_builtin; refine wpList_append_row rfl _ _ 22 rfl w.heap.size 3 i0 (.int .i64 0) 8 Try.underlying22 hi hz0 hz1 hz2 rfl _ 0 [] rfl (owns_empty w w.heap.size 3 (Nat.le_refl _)) .i64 _ _ (H.out.alloc _) rfl (by unfold maxLen; omega) (by omega) (by simp) ?_; intro v4 w4 hown4 hb4)
    go_ret
    refine ⟨_, rfl, by simpa using hown4, ((Below.refl _ w).alloc (Nat.le_refl _) _).trans hb4⟩

/-- A sieve with nothing in it. -/
def Sm.fresh (bits' hashes salt : Int) : Sm.Sv := ⟨bits', hashes, salt, List.replicate ((max 0 (min bits' 8192)).toNat / 8) 0⟩
theorem made_zero (n : Nat) : (madeCells #[Value.int .u8 0] (n * 1)).toList = (List.replicate n (0 : Int)).map (Value.int .u8) := by
  apply List.ext_getElem
  · simp [madeCells]
  · intro i h1 h2
    simp [madeCells, Nat.mod_one]

/-- What New hands back. -/
def Newed (w w' : World) (e : Ending) (z : Sm.Sv) : Prop :=
  (Sm.ok z ∧ ∃ g, e = .returned (.tuple #[.agg #[.int .i64 z.bits, .int .i64 z.hashes, .int .i64 z.salt, .slice (some ⟨g, 0, none⟩) z.b.length z.b.length], .int .i64 0]) ∧
    w'.ownsRow w.heap.size 5 1 (.slice (some ⟨g, 0, none⟩) z.b.length z.b.length) z.b.length (z.b.map (Value.int .u8))) ∨
  (¬ Sm.ok z ∧ e = .returned (.tuple #[.agg #[.int .i64 0, .int .i64 0, .int .i64 0, .slice none 0 0], .int .i64 1]))

set_option maxRecDepth 100000 in
set_option maxHeartbeats 1000000 in
theorem New_any (bits' hashes salt : Int) (w : World) :
    Calls Try.prog 72 #[.int .i64 bits', .int .i64 hashes, .int .i64 salt] w fun e w' => Newed w w' e (Sm.fresh bits' hashes salt) ∧ Below w.heap.size w w' := by
  obtain ⟨i0, hi, hz0, hz1, hz2⟩ := info_parts info_u8
  obtain ⟨len, hlen⟩ : ∃ len, (max 0 (min bits' 8192)).toNat / 8 = len := ⟨_, rfl⟩
  obtain ⟨x, e1⟩ : ∃ x, min bits' 8192 = x := ⟨_, rfl⟩
  obtain ⟨y, e2⟩ : ∃ y, max 0 x = y := ⟨_, rfl⟩
  have e3 : y / 8 = (len : Int) := by rw [← hlen, e1, e2]; omega
  have hl2 : len ≤ 1024 := by omega
  have hb : (Sm.fresh bits' hashes salt).b = List.replicate len 0 := by simp only [Sm.fresh, hlen]
  obtain ⟨z, hz⟩ : ∃ z, Sm.fresh bits' hashes salt = z := ⟨_, rfl⟩
  have zb : z.bits = bits' := by rw [← hz]; rfl
  have zh : z.hashes = hashes := by rw [← hz]; rfl
  have zs : z.salt = salt := by rw [← hz]; rfl
  rw [hz] at hb ⊢
  have hzl : z.b.length = len := by rw [hb]; simp
  obtain ⟨B, hB⟩ : ∃ B, w.heap.size = B := ⟨_, rfl⟩
  have q0 := Quad.new w 57 (.int .i64 0) (.int .i64 0) (.int .i64 0) (.slice none 0 0)
  have hbw := (Below.refl w.heap.size w).alloc (Nat.le_refl _) (.cells #[.int .i64 0, .int .i64 0, .int .i64 0, .slice none 0 0] 57)
  obtain ⟨W, hr, hown, hgr⟩ := run_makeSlice_full (P := Try.prog) (w := w.alloc (.cells #[.int .i64 0, .int .i64 0, .int .i64 0, .slice none 0 0] 57)) w.heap.size 55 5 i0 (.int .u8 0) 1 Try.underlying55 hi hz0 hz1 .i64 .i64 len (by omega) (by rw [hz2]; omega) (by unfold maxLen; omega) (by simp)
  simp only [Value.cells] at hown
  rw [made_zero] at hown
  rw [hB] at q0
  simp only [World.size_alloc, hB] at hr hown
  have hWb : Below (B + 1) (w.alloc (.cells #[.int .i64 0, .int .i64 0, .int .i64 0, .slice none 0 0] 57)) W := ⟨hgr.os, hgr.tape, hgr.output, hgr.size, fun k hk => hgr.block k (by simp; omega) (by simp)⟩
  have hWw : Below w.heap.size w W := hbw.trans (hWb.mono (by omega))
  have q1 := q0.kept hWb (by omega)
  have hWs := hWb.size
  rw [World.size_alloc, hB] at hWs
  have rB : Row .u8 W (.slice (some ⟨B + 1, 0, none⟩) len len) z.b := by
    have := owns_row (w := W) (base := B) (v := .slice (some ⟨B + 1, 0, none⟩) len len) (l := z.b) (by rw [hzl, hb]; exact hown) (by rw [hb]; exact Sm.zero_bytes len)
    exact this
  rw [← hb, ← hzl] at hown
  have HO := Lib.hid hown; have HZ := Lib.hid hzl; have HBW := Lib.hid hB
  obtain ⟨G, hG⟩ : ∃ G, W.heap.size = G := ⟨_, rfl⟩
  have hGB : B < G := by omega
  have qX := Quad.new' W 57 (.int .i64 bits') (.int .i64 hashes) (.int .i64 salt) (.slice (some ⟨B + 1, 0, none⟩) len len) G hG.symm
  have q2 := q1.alloc (.cells #[.int .i64 bits', .int .i64 hashes, .int .i64 salt, .slice (some ⟨B + 1, 0, none⟩) len len] 57)
  have rX := rB.alloc (.cells #[.int .i64 bits', .int .i64 hashes, .int .i64 salt, .slice (some ⟨B + 1, 0, none⟩) len len] 57)
  have hWX := hWw.alloc hWw.size (.cells #[.int .i64 bits', .int .i64 hashes, .int .i64 salt, .slice (some ⟨B + 1, 0, none⟩) len len] 57)
  clear hlen hb hgr hi hz0 hz1 hz2 q0 hz hown hzl hWb q1 rB hWw hWs
  have Zb := Lib.hid zb; have Zh := Lib.hid zh; have Zs := Lib.hid zs
  clear zb zh zs
  go_enter Try.func72, Try.ntmps72
  go_wp2_with fail
  have hC := Check_any z (.slice (some ⟨B + 1, 0, none⟩) len len) _ rX
  rw [Zb.out, Zh.out, Zs.out] at hC
  refine hC.mono ?_; rintro e w1 ⟨⟨cc, rfl, hcc⟩, hb1⟩
  have q3 := q2.stp hb1
  have qY := qX.stp hb1
  have oY := owns_below ((HO.out).alloc (.cells #[.int .i64 bits', .int .i64 hashes, .int .i64 salt, .slice (some ⟨B + 1, 0, none⟩) len len] 57)) hb1
  have hw1 : Below w.heap.size w w1 := hWX.trans (hb1.mono hWX.size)
  clear hC qX q2 rX hWX hb1
  have f0 := q3.free 0; have f1 := q3.free 1; have f2 := q3.free 2; have f3 := q3.free 3
  have c0 := q3.cell0; have c1 := q3.cell1; have c2 := q3.cell2; have c3 := q3.cell3
  have d0 := qY.cell0; have d1 := qY.cell1; have d2 := qY.cell2; have d3 := qY.cell3
  rcases hcc with ⟨hok, rfl⟩ | ⟨hok, rfl⟩
  · have HOK := Lib.hid hok
    clear hok
    go_wp2_with fail
    have hzz := (((q3.set0 (.int .i64 bits')).set1 (.int .i64 hashes)).set2 (.int .i64 salt)).set3 (.slice (some ⟨B + 1, 0, none⟩) len len)
    refine bodyPost_ret (results_cell_tmp rfl _ _ B _ _ _ _ rfl hzz rfl rfl rfl) rfl ⟨.inl ⟨HOK.out, B + 1, by rw [Zb.out, Zh.out, Zs.out, HZ.out]; rfl, ?_⟩, ?_⟩
    · rw [HBW.out]
      rw [HZ.out] at oY ⊢
      exact (((ownsRow_setCell_other oY (a := ⟨B, 0, none⟩) (by simp [Value.ownBlock]) _ |> fun h => ownsRow_setCell_other h (a := ⟨B, 1, none⟩) (by simp [Value.ownBlock]) _) |> fun h => ownsRow_setCell_other h (a := ⟨B, 2, none⟩) (by simp [Value.ownBlock]) _) |> fun h => ownsRow_setCell_other h (a := ⟨B, 3, none⟩) (by simp [Value.ownBlock]) _)
    · exact (((hw1.setCell (by rw [HBW.out]; simp) _).setCell (by rw [HBW.out]; simp) _).setCell (by rw [HBW.out]; simp) _).setCell (by rw [HBW.out]; simp) _
  · have HOK := Lib.hid hok
    clear hok
    go_wp2_with fail
    have hzz := (((q3.set0 (.int .i64 0)).set1 (.int .i64 0)).set2 (.int .i64 0)).set3 (.slice none 0 0)
    refine bodyPost_ret (results_cell_tmp rfl _ _ B _ _ _ _ rfl hzz rfl rfl rfl) rfl ⟨.inr ⟨HOK.out, rfl⟩, ?_⟩
    exact (((hw1.setCell (by rw [HBW.out]; simp) _).setCell (by rw [HBW.out]; simp) _).setCell (by rw [HBW.out]; simp) _).setCell (by rw [HBW.out]; simp) _

theorem Quad.turned {W W' : World} {B g : Nat} {t : TypeId} {x y z u : Value} (h : Quad W B t x y z u) (ht : Turned g W W') (hne : B ≠ g) : Quad W' B t x y z u :=
  (ht.block B h.lt (by intro e; injection e with e; exact hne e)).trans h
end Go.Proofs.Ytconpdliadhahaa
