/-
  Walks over cascade.levels (the maker) and what its iterator holds; plain facts on the levels made so far.
-/
import Derived.Test.YtconpdliadhahaaCc
import Derived.Test.YtconpdliadhahaaRf
namespace Go.Proofs.Ytconpdliadhahaa
open Go.RowKit

/-- Numbers as the levels are made of. -/
def NumL (l : List Int) : Prop := l.length ≤ 256 ∧ Sm.allRight l
theorem NumL.filter {l : List Int} (h : NumL l) (q : Int → Bool) : NumL (l.filter q) := ⟨Nat.le_trans (List.length_filter_le _ _) h.1, Cm.filter_right h.2⟩
/-- What is known when the levels pre have been made, and those of ins, outs are still to come. -/
def LvSt (day : Int) (ins0 outs0 : List Int) (pre : List Sm.Sv) (ins outs : List Int) : Prop :=
  Cm.build day 16 0 ins0 outs0 = (Cm.build day (16 - pre.length) (pre.length : Int) ins outs).map (pre ++ ·) ∧ pre.length ≤ 16 ∧ NumL ins ∧ NumL outs
theorem LvSt.start {day : Int} {ins outs : List Int} (h1 : NumL ins) (h2 : NumL outs) : LvSt day ins outs [] ins outs :=
  ⟨by simp, by simp, h1, h2⟩
theorem LvSt.none {day : Int} {ins0 outs0 : List Int} {pre : List Sm.Sv} {ins outs : List Int} (h : LvSt day ins0 outs0 pre ins outs) (h16 : pre.length = 16) : Cm.build day 16 0 ins0 outs0 = none := by
  rw [h.1, h16]; rfl
theorem LvSt.last {day : Int} {ins0 outs0 : List Int} {pre : List Sm.Sv} {ins outs : List Int} (h : LvSt day ins0 outs0 pre ins outs) (h16 : pre.length < 16) (hn : outs.filter (Sm.has (Cm.lv day pre.length ins)) = []) :
    Cm.build day 16 0 ins0 outs0 = some (pre ++ [Cm.lv day pre.length ins]) := by
  obtain ⟨f, hf⟩ : ∃ f, 16 - pre.length = f + 1 := ⟨15 - pre.length, by omega⟩
  rw [h.1, hf, Cm.build_last day f pre.length ins outs hn]; rfl
theorem LvSt.next {day : Int} {ins0 outs0 : List Int} {pre : List Sm.Sv} {ins outs : List Int} (h : LvSt day ins0 outs0 pre ins outs) (h16 : pre.length < 16) (hn : outs.filter (Sm.has (Cm.lv day pre.length ins)) ≠ []) :
    LvSt day ins0 outs0 (pre ++ [Cm.lv day pre.length ins]) (outs.filter (Sm.has (Cm.lv day pre.length ins))) ins := by
  obtain ⟨f, hf⟩ : ∃ f, 16 - pre.length = f + 1 := ⟨15 - pre.length, by omega⟩
  have hl : (pre ++ [Cm.lv day pre.length ins]).length = pre.length + 1 := by simp
  refine ⟨?_, by omega, h.2.2.2.filter _, h.2.2.1⟩
  rw [h.1, hf, Cm.build_step day f pre.length ins outs hn, hl, show 16 - (pre.length + 1) = f by omega, Option.map_map]
  congr 1
  funext l
  simp

/-- What the iterator holds in its three boxes. -/
structure LvIt (W : World) (P D Q : Nat) (day : Int) (base : Nat) (vi vo : Value) (ins outs : List Int) : Prop where
  pin : Boxed W P 22 vi
  pday : Boxed W D 3 (.int .i64 day)
  pout : Boxed W Q 22 vo
  rin : Row .i64 W vi ins
  rout : Row .i64 W vo outs
  sin : ∀ b o n c, vi = .slice (some ⟨b, o, none⟩) n c → 0 < n → b < base ∨ ∃ cs f, W.heap[b]? = some (.cells cs 3 f)
  sout : ∀ b o n c, vo = .slice (some ⟨b, o, none⟩) n c → 0 < n → b < base ∨ ∃ cs f, W.heap[b]? = some (.cells cs 3 f)
/-- What a round keeps: what lay below base; blocks of numbers, of slices of numbers, of bytes; the block G. -/
def KeepT (base G : Nat) (W V : World) : Prop := W.heap.size ≤ V.heap.size ∧ ∀ k, k < W.heap.size → (k < base ∨ (k = G ∧ ∃ cs t f, W.heap[k]? = some (.cells cs t f)) ∨ ∃ cs t f, W.heap[k]? = some (.cells cs t f) ∧ (t = 3 ∨ t = 22 ∨ t = 5)) → V.heap[k]? = W.heap[k]?
theorem Row.keep {k : IntKind} {W V : World} {v : Value} {l : List Int} (h : Row k W v l) (hs : W.heap.size ≤ V.heap.size) (hk : ∀ b o n c, v = .slice (some ⟨b, o, none⟩) n c → 0 < n → b < W.heap.size → V.heap[b]? = W.heap[b]?) : Row k V v l := by
  obtain ⟨a, cap, h1, h2, h3, h0, h4, h5⟩ := h
  refine ⟨a, cap, h1, h2, h3, h0, h4, fun hne => ?_⟩
  obtain ⟨b, o, e, hlt, hc⟩ := h5 hne
  exact ⟨b, o, e, Nat.lt_of_lt_of_le hlt hs, fun i hi => (World.cell?_of_block (hk b o _ _ (by rw [h1, e]) (List.length_pos_iff.2 hne) hlt)).trans (hc i hi)⟩
theorem LvIt.keep {W V : World} {P D Q base G : Nat} {day : Int} {vi vo : Value} {ins outs : List Int} (h : LvIt W P D Q day base vi vo ins outs) (hk : KeepT base G W V) : LvIt V P D Q day base vi vo ins outs := by
  have key : ∀ {b : Nat}, b < W.heap.size → (b < base ∨ ∃ cs f, W.heap[b]? = some (.cells cs 3 f)) → V.heap[b]? = W.heap[b]? := fun hb h => by
    rcases h with h | ⟨cs, f, h⟩
    · exact hk.2 _ hb (.inl h)
    · exact hk.2 _ hb (.inr (.inr ⟨cs, _, f, h, .inl rfl⟩))
  have hlt : ∀ {b : Nat} {cs t f}, W.heap[b]? = some (.cells cs t f) → b < W.heap.size := fun h => (Array.getElem?_eq_some_iff.1 h).1
  have safe : ∀ {v : Value}, (∀ b o n c, v = .slice (some ⟨b, o, none⟩) n c → 0 < n → b < base ∨ ∃ cs f, W.heap[b]? = some (.cells cs 3 f)) → ∀ b o n c, v = .slice (some ⟨b, o, none⟩) n c → 0 < n → b < base ∨ ∃ cs f, V.heap[b]? = some (.cells cs 3 f) := fun hv b o n c e hn => by
    rcases hv b o n c e hn with h | ⟨cs, f, h⟩
    · exact .inl h
    · exact .inr ⟨cs, f, (key (hlt h) (.inr ⟨cs, f, h⟩)).trans h⟩
  exact ⟨(hk.2 _ h.pin.lt (.inr (.inr ⟨_, _, _, h.pin, .inr (.inl rfl)⟩))).trans h.pin, (hk.2 _ h.pday.lt (.inr (.inr ⟨_, _, _, h.pday, .inl rfl⟩))).trans h.pday,
    (hk.2 _ h.pout.lt (.inr (.inr ⟨_, _, _, h.pout, .inr (.inl rfl)⟩))).trans h.pout, h.rin.keep hk.1 fun b o n c e hn hb => key hb (h.sin b o n c e hn), h.rout.keep hk.1 fun b o n c e hn hb => key hb (h.sout b o n c e hn), safe h.sin, safe h.sout⟩
theorem KeepT.of_below {W V : World} (base G : Nat) (h : Below W.heap.size W V) : KeepT base G W V := ⟨h.size, fun k hk _ => h.block k hk⟩
theorem LvIt.stp {W V : World} {P D Q base : Nat} {day : Int} {vi vo : Value} {ins outs : List Int} (h : LvIt W P D Q day base vi vo ins outs) (hb : Below W.heap.size W V) : LvIt V P D Q day base vi vo ins outs := h.keep (G := 0) (KeepT.of_below base 0 hb)

/-- A level that is yielded: its number, the sieve, its bytes' slice, the block in which it lies. -/
structure Lvl where
  i : Nat
  s : Sm.Sv
  vb : Value
  G : Nat
def lvEnc (x : Lvl) : Array Value := #[.int .i64 x.i, .agg #[.int .i64 x.s.bits, .int .i64 x.s.hashes, .int .i64 x.s.salt, x.vb, .int .i64 0]]
/-- The bytes of a level, in memory that is the call's own. -/
def Own8 (W : World) (lim : Nat) (x : Lvl) : Prop := W.ownsRow lim 5 1 x.vb x.s.b.length (x.s.b.map (Value.int .u8)) ∧ ∀ y ∈ x.s.b, byte y
/-- What the iterator knows when it yields. -/
def LvR (day : Int) (ins0 outs0 : List Int) (lim : Nat) (pre : List Lvl) (x : Lvl) (W0 W : World) : Prop :=
  x.i = pre.length ∧ pre.length ≤ 16 ∧ Own8 W lim x ∧ (W0.heap.size ≤ x.G ∧ x.G < W.heap.size) ∧ (pre.length = 16 → Cm.build day 16 0 ins0 outs0 = none)
def LvK (base : Nat) (xs : List Lvl) (W V : World) : Prop := xs.length ≤ 16 ∧ ∀ x, xs.getLast? = some x → KeepT base x.G W V

theorem levels_any (a1 a2 : Option Addr) (n1 n2 c1 c2 : Nat) (day : Int) (w : World) :
    Calls Try.prog 54 #[.slice a1 n1 c1, .slice a2 n2 c2, .int .i64 day] w fun e w' =>
      e = .returned (.func (.func 63) #[] #[.pointer (some ⟨w.heap.size, 0, none⟩), .pointer (some ⟨w.heap.size + 2, 0, none⟩), .pointer (some ⟨w.heap.size + 1, 0, none⟩)]) ∧
      ((w.alloc (.cells #[.slice a1 n1 c1] 22)).alloc (.cells #[.slice a2 n2 c2] 22)).alloc (.cells #[.int .i64 day] 3) = w' := by
  go_enter Try.func54, Try.ntmps54
  go_wp2_with fail
  go_ret
  exact ⟨rfl, rfl⟩

/-- A level's sieve is made. -/
theorem LvOf_any (vl : Value) (ins : List Int) (day : Int) (j : Nat) (s : Sm.Sv) (w : World) (h : Row .i64 w vl ins) (hl : NumL ins) (hd : Cm.dated day) (hj : j ≤ 16) (hs : Cm.lv day j ins = s) (m : Int) (hm : max 1 (ins.length : Int) = m) (sa : Int) (hsa : 16 * day + j = sa) :
    Calls Try.prog 64 #[vl, .int .i64 (8 * m), .int .i64 3, .int .i64 sa] w fun e w' =>
      ∃ g, e = .returned (.tuple #[.agg #[.int .i64 s.bits, .int .i64 s.hashes, .int .i64 s.salt, .slice (some ⟨g, 0, none⟩) s.b.length s.b.length], .int .i64 0]) ∧ w'.ownsRow w.heap.size 5 1 (.slice (some ⟨g, 0, none⟩) s.b.length s.b.length) s.b.length (s.b.map (Value.int .u8)) ∧ (∀ y ∈ s.b, byte y) ∧ Below w.heap.size w w' := by
  subst hm hs hsa
  have hok := Cm.lv_ok day j ins ⟨by have := hd.1; omega, by have := hd.2; omega⟩ (by have := hl.1; omega) hl.2
  refine (Of_sv vl ins _ 3 _ w h (by have := hl.1; omega)).mono ?_
  rintro e w' ⟨⟨-, g, rfl, own⟩ | ⟨hno, -⟩, hB⟩
  · have e1 : Cm.lv day j ins = (Sm.fresh (8 * max 1 (ins.length : Int)) 3 (16 * day + j)).with (Sm.puts (Sm.fresh (8 * max 1 (ins.length : Int)) 3 (16 * day + j)).b (Sm.allPlaces (Sm.fresh (8 * max 1 (ins.length : Int)) 3 (16 * day + j)) ins)) := by
      unfold Cm.lv Sm.ofS; rw [if_pos hok]
    have e2 : (Cm.lv day j ins).b.length = (Sm.fresh (8 * max 1 (ins.length : Int)) 3 (16 * day + j)).b.length := by rw [e1]; exact Sm.puts_length _ _
    refine ⟨g, by rw [e2, e1]; rfl, ?_, ?_, hB⟩
    · rw [e2, e1]; exact own
    · rw [e1]; exact Sm.puts_bytes (Sm.zero_bytes _) _
  · exact absurd hok hno
end Go.Proofs.Ytconpdliadhahaa
