/-
  A sieve that came in: opened; Of as one function of its numbers.
-/
import Derived.Test.YtconpdliadhahaaSz
import Derived.Lib.SmallJoins
import Derived.ChangeArms
namespace Go.Proofs.Ytconpdliadhahaa
open Go.RowKit Go.ChangeShapes Go.WideShapes Go.Joins

theorem below_undrew {n : Nat} {w w' : World} (h : Below n w.drew w') : Below n w w' := ⟨h.os, h.tape, h.output, h.size, h.block⟩
theorem wp_append_ints {P : Program} {w0 w : World} {o : Oper} {a : Act} {K : Act → World → Prop} {Q : Exit → Act → World → Prop} (s x : Operand) (t : TypeId)
    (ho : o.op = .call { callee := .builtin .append, args := #[s, x], argTypes := #[t, t] })
    (e : TypeId) (i : TypeInfo) (z : Value) (ht : P.underlying t = some (.slice e)) (hi : P.info? e = some i) (hz : i.zero = some z)
    (hsize : i.size = 1) (hby : i.bytes = 8) (hzs : z.cells.size = 1) (hb0 : Below w0.heap.size w0 w)
    (v : Value) (ms : List Int) (hs : a.eval s = v) (hown : w.ownsRow w0.heap.size e 1 v ms.length (ms.map (Value.int .i64)))
    (xv : Value) (ls : List Int) (hrow : Row .i64 w0 xv ls) (hx : a.eval x = xv) (h63 : ms.length + ls.length ≤ 10000000)
    (h : ∀ v' w', w'.ownsRow w0.heap.size e 1 v' (ms ++ ls).length ((ms ++ ls).map (Value.int .i64)) → Below w0.heap.size w0 w' → K (a.put o.dst v') w') : o.wp P a w K Q := by
  obtain ⟨ad, cap, rfl, hlc, _, hnc, _, hc⟩ := hrow.below hb0
  cases ad with
  | none =>
    have hl : ls = [] := by
      apply Classical.byContradiction; intro hne
      obtain ⟨b, off, e', _⟩ := hc hne; cases e'
    subst hl
    obtain rfl : cap = 0 := hnc rfl
    have hrun := run_append_owned_none (P := P) (w := w) w0.heap.size t o.type e i 1 ht hi v ms.length _ hown
    unfold Oper.wp
    simp [execOp, ho, resolve, invoke, builtin, hs, hx, hrun, Result.andThen]
    exact h v w (by simpa using hown) hb0
  | some ad =>
    refine wp_append_own w s x t ho w0.heap.size e i z 1 8 ht hi hz hsize hby hzs (by decide) v ms.length _ hs hown ad ls.length cap (ls.map (Value.int .i64)) hx (by simp) ?_ ?_ (by unfold maxLen; omega) (by omega) hb0.size ?_
    · intro j u hj
      have hjl : j < ls.length := by
        apply Classical.byContradiction; intro hn
        rw [List.getElem?_eq_none (by simp; omega)] at hj; cases hj
      obtain ⟨b, off, e', hb, hcell⟩ := hc (by rintro rfl; simp at hjl)
      cases e'
      rw [List.getElem?_map, List.getElem?_eq_getElem hjl] at hj
      simp only [Option.map_some, Option.some.injEq] at hj
      rw [addr_add, hcell j hjl, ← hj, List.getElem?_eq_getElem hjl]; rfl
    · intro u hu
      obtain ⟨y, _, rfl⟩ := List.mem_map.1 hu
      rfl
    · intro v' w' h1 h2 _
      exact h v' w' (by rw [List.length_append, List.map_append]; exact h1) (hb0.grown h2 hb0.size fun k e => own_above hown e)
theorem Sm.bor_puts (b : List Int) (qs : List Nat) (hb : Sm.bytes b) (hq : ∀ q ∈ qs, q / 8 < b.length) (i : Nat) : Sm.bor (b[i]?.getD 0) ((Sm.puts b qs)[i]?.getD 0) = (Sm.puts b qs)[i]?.getD 0 := by
  have h1 := Sm.byte_at b hb i
  have h2 := Sm.byte_at (Sm.puts b qs) (Sm.puts_bytes hb qs) i
  unfold Sm.bor
  have key : (b[i]?.getD 0).toNat ||| ((Sm.puts b qs)[i]?.getD 0).toNat = ((Sm.puts b qs)[i]?.getD 0).toNat := by
    apply Nat.eq_of_testBit_eq
    intro j
    rw [Nat.testBit_or]
    by_cases hj : j < 8
    · have hp := Sm.bit_puts b qs (8 * i + j) hq
      unfold Sm.bit at hp
      rw [show (8 * i + j) / 8 = i by omega, show (8 * i + j) % 8 = j by omega] at hp
      rw [hp]
      cases (b[i]?.getD 0).toNat.testBit j <;> simp
    · have hp : (2 : Nat) ^ 8 ≤ 2 ^ j := Nat.pow_le_pow_right (by decide) (by omega)
      rw [Nat.testBit_lt_two_pow (by have := h1.2; omega)]; simp
  rw [key]
  have := h2.1
  omega
theorem Sm.puts_again (b : List Int) (qs : List Nat) (hb : Sm.bytes b) (hq : ∀ q ∈ qs, q / 8 < b.length) : Sm.puts (Sm.puts b qs) qs = Sm.puts b qs := by
  rw [← Sm.puts_append]
  exact Sm.puts_same b _ _ hb (by intro q h; rcases List.mem_append.1 h with h | h <;> exact hq q h) hq (fun q => by simp)
/-- The value of a sieve. -/
def SvV (W : World) (v : Value) (s : Sm.Sv) : Prop := ∃ vb, v = .agg #[.int .i64 s.bits, .int .i64 s.hashes, .int .i64 s.salt, vb] ∧ Row .u8 W vb s.b
set_option maxRecDepth 100000 in
theorem sv_open {H : Type} {enc : TypeId × Value → H} {W : World} {b0 base : Nat} {v : Value} {d : DataW H} {p : List MemPlace} (hv : Value.okWide Try.prog W .any b0 57 v)
    (h : DataW.Trod enc Try.prog W base (fun _ => true) true 57 v d p) : ∃ s : Sm.Sv, SvV W v s := by
  obtain ⟨v0, v1, v2, v3, y0, y1, y2, y3, n, rfl, -, -, t0, t1, t2, t3⟩ := open_agg4 Try.underlying57 (by kernel_rfl) (by kernel_rfl) hv h
  obtain ⟨n0, e0, -, -⟩ := DataW.trod_int Try.underlying3 t0
  obtain ⟨n1, e1, -, -⟩ := DataW.trod_int Try.underlying3 t1
  obtain ⟨n2, e2, -, -⟩ := DataW.trod_int Try.underlying3 t2
  obtain ⟨l, r⟩ := row_of_trod Try.underlying55 Try.underlying5 (by kernel_rfl) t3
  simp only [List.cons.injEq, and_true] at e0 e1 e2
  subst e0 e1 e2
  exact ⟨⟨n0, n1, n2, l⟩, v3, rfl, r⟩

instance (l : List Int) : Decidable (Sm.allRight l) := by unfold Sm.allRight; infer_instance
/-- What Of makes of numbers, and its code. -/
def Sm.ofS (z : Sm.Sv) (l : List Int) : Sm.Sv := if Sm.ok z ∧ Sm.allRight l then z.with (Sm.puts z.b (Sm.allPlaces z l)) else ⟨0, 0, 0, []⟩
def Sm.ofE (z : Sm.Sv) (l : List Int) : Int := if Sm.ok z ∧ Sm.allRight l then 0 else 1
theorem Of_all (vl : Value) (l : List Int) (bits' hashes salt : Int) (s : Sm.Sv) (cc : Int) (w : World) (h : Row .i64 w vl l) (hl : l.length ≤ 1000) (hs : Sm.ofS (Sm.fresh bits' hashes salt) l = s) (hc : Sm.ofE (Sm.fresh bits' hashes salt) l = cc) :
    Calls Try.prog 64 #[vl, .int .i64 bits', .int .i64 hashes, .int .i64 salt] w fun e w' => ∃ a c, e = .returned (.tuple #[.agg #[.int .i64 s.bits, .int .i64 s.hashes, .int .i64 s.salt, .slice a s.b.length c], .int .i64 cc]) ∧ Row .u8 w' (.slice a s.b.length c) s.b ∧ Below w.heap.size w w' := by
  subst hs hc
  unfold Sm.ofS Sm.ofE
  by_cases hy : Sm.ok (Sm.fresh bits' hashes salt) ∧ Sm.allRight l
  · rw [if_pos hy, if_pos hy]
    exact Of_ok vl l bits' hashes salt _ w h hl hy rfl
  · rw [if_neg hy, if_neg hy]
    refine (Of_bad vl l bits' hashes salt w h hl hy).mono ?_
    rintro e w' ⟨rfl, hB⟩
    exact ⟨none, 0, rfl, Row.nil _ _, hB⟩
theorem Sm.allPlaces_in (z : Sm.Sv) (l : List Int) (h : Sm.ok z) : ∀ q ∈ Sm.allPlaces z l, q / 8 < z.b.length := by
  intro q hq
  obtain ⟨n, _, hq⟩ := List.mem_flatMap.1 hq
  exact Sm.places_in z n h q hq
/-- The same numbers, in whatever order and however often. -/
theorem Sm.ofS_same (z : Sm.Sv) (l m : List Int) (hz : Sm.bytes z.b) (h : ∀ x, x ∈ l ↔ x ∈ m) : Sm.ofS z l = Sm.ofS z m ∧ Sm.ofE z l = Sm.ofE z m := by
  have hr : Sm.allRight l ↔ Sm.allRight m := ⟨fun a x hx => a x ((h x).2 hx), fun a x hx => a x ((h x).1 hx)⟩
  unfold Sm.ofS Sm.ofE
  by_cases hy : Sm.ok z ∧ Sm.allRight l
  · have hm : Sm.ok z ∧ Sm.allRight m := ⟨hy.1, hr.1 hy.2⟩
    rw [if_pos hy, if_pos hm, if_pos hy, if_pos hm]
    refine ⟨?_, rfl⟩
    congr 1
    refine Sm.puts_same z.b _ _ hz (Sm.allPlaces_in z l hy.1) (Sm.allPlaces_in z m hy.1) fun q => ?_
    simp only [Sm.allPlaces, List.mem_flatMap]
    exact ⟨fun ⟨n, a, b⟩ => ⟨n, (h n).1 a, b⟩, fun ⟨n, a, b⟩ => ⟨n, (h n).2 a, b⟩⟩
  · have hm : ¬ (Sm.ok z ∧ Sm.allRight m) := fun hm => hy ⟨hm.1, hr.2 hm.2⟩
    rw [if_neg hy, if_neg hm, if_neg hy, if_neg hm]
    exact ⟨rfl, rfl⟩
theorem Sm.has_of (z : Sm.Sv) (l : List Int) (n : Int) (hy : Sm.ok z ∧ Sm.allRight l) (hn : n ∈ l) : Sm.has (Sm.ofS z l) n = true := by
  unfold Sm.ofS
  rw [if_pos hy]
  exact Sm.has_with z n _ hy.1 (hy.2 n hn) (Sm.allPlaces_in z l hy.1) fun q hq => .inl (List.mem_flatMap.2 ⟨n, hn, hq⟩)
theorem Sm.ok_of (z : Sm.Sv) (l : List Int) (hy : Sm.ok z ∧ Sm.allRight l) : Sm.ok (Sm.ofS z l) := by
  unfold Sm.ofS
  rw [if_pos hy]
  exact Sm.ok_with z _ hy.1 (Sm.puts_length _ _)
end Go.Proofs.Ytconpdliadhahaa
