/-
  Walks over sieve.places (the maker) and sieve.put.
-/
import Derived.Test.YtconpdliadhahaaSp
namespace Go.Proofs.Ytconpdliadhahaa
open Go.RowKit Go.Shelf

def svVal (s : Sm.Sv) (vb : Value) : Value := .agg #[.int .i64 s.bits, .int .i64 s.hashes, .int .i64 s.salt, vb]

set_option maxRecDepth 100000 in
set_option maxHeartbeats 1000000 in
theorem places_any (s : Sm.Sv) (vb : Value) (n : Int) (w : World) (hs : Sm.right s.salt) (hn : Sm.right n) :
    Calls Try.prog 57 #[.agg #[.int .i64 s.bits, .int .i64 s.hashes, .int .i64 s.salt, vb], .int .i64 n] w fun e w' =>
      ∃ B P Q gs gn, e = .returned (.func (.func 67) #[] #[.pointer (some ⟨B, 0, none⟩), .pointer (some ⟨P, 0, none⟩), .pointer (some ⟨Q, 0, none⟩)]) ∧ Iter w' B P Q gs gn s vb n ∧ (∀ k ∈ [B, P, Q, gs, gn], w.heap.size ≤ k ∧ k < w'.heap.size) ∧ Below w.heap.size w w' := by
  obtain ⟨bits', hashes, salt, b⟩ := s
  dsimp only at hs ⊢
  have qB := Quad.new w 57 (.int .i64 bits') (.int .i64 hashes) (.int .i64 salt) vb
  obtain ⟨B, hB⟩ : ∃ B, w.heap.size = B := ⟨_, rfl⟩
  have hb0 := (Below.refl w.heap.size w).alloc (Nat.le_refl _) (.cells #[.int .i64 bits', .int .i64 hashes, .int .i64 salt, vb] 57)
  go_enter Try.func57, Try.ntmps57
  go_wp2_with fail
  refine (long_any salt _ hs.1 hs.2).mono ?_; rintro e w1 ⟨rfl, r1, hlt1, hb1⟩
  have hB1 := hb0.trans (hb1.mono (by simp))
  have q1 := qB.stp hb1
  generalize hW : w.alloc (.cells #[.int .i64 bits', .int .i64 hashes, .int .i64 salt, vb] 57) = W at *
  obtain ⟨gs, hgs⟩ : ∃ gs, W.heap.size = gs := ⟨_, rfl⟩
  have hWs : W.heap.size = w.heap.size + 1 := by rw [← hW]; simp
  rw [hgs] at r1 ⊢
  clear hW
  go_wp2_with fail
  refine (long_any n _ hn.1 hn.2).mono ?_; rintro e w2 ⟨rfl, r2, hlt2, hb2⟩
  have hB2 := hB1.trans (hb2.mono hB1.size)
  have q2 := q1.stp hb2
  have r12 := r1.below hb2
  obtain ⟨gn, hgn⟩ : ∃ gn, w1.heap.size = gn := ⟨_, rfl⟩
  rw [hgn] at r2 ⊢
  go_wp2_with fail
  go_ret
  have bP := Boxed.new w2 55 (.slice (some ⟨gs, 0, none⟩) 8 8)
  have bQ := Boxed.new (w2.alloc (.cells #[.slice (some ⟨gs, 0, none⟩) 8 8] 55)) 55 (.slice (some ⟨gn, 0, none⟩) 8 8)
  rw [World.size_alloc] at bQ
  have z1 := hlt1; have z2 := hlt2; have z3 := hB2.size
  refine ⟨B, w2.heap.size, w2.heap.size + 1, gs, gn, rfl, ⟨?_, bP.alloc _, bQ, (r12.alloc _).alloc _, (r2.alloc _).alloc _⟩, ?_, (hB2.alloc hB2.size _).alloc (by simp; omega) _⟩
  · rw [← hB]; exact (q2.alloc _).alloc _
  · intro k hk
    simp only [World.size_alloc]
    simp at hk
    rcases hk with rfl | rfl | rfl | rfl | rfl <;> omega

theorem below_grows {w w' : World} (h : Below w.heap.size w w') : w.grownBy w' none := ⟨h.os, h.tape, h.output, h.size, fun k hk _ => h.block k hk⟩
theorem places_stops (n0 : Nat) (hn : 1 ≤ n0) (B P Q gs gn : Nat) (s : Sm.Sv) (vb : Value) (n : Int) (hb0 : 8 ≤ s.bits) (hb1 : s.bits ≤ 8192) (hh0 : 1 ≤ s.hashes) (hh1 : s.hashes ≤ 8) (w : World) (hI : Iter w B P Q gs gn s vb n) :
    SeqStopsK Fence.wide n0 Try.prog 67 #[.pointer (some ⟨B, 0, none⟩), .pointer (some ⟨P, 0, none⟩), .pointer (some ⟨Q, 0, none⟩)] (pcEnc s.bits) (KeepsL [B, P, Q, gs, gn])
      (fun ys => ys.map (·.1) = Sm.places s.bits s.hashes s.salt n) (fun pre => pre.map (·.1) <+: Sm.places s.bits s.hashes s.salt n) s.hashes.toNat w := fun L J Jx W hW hJ _ hY hJ0 =>
  places1_in n0 hn L B P Q gs gn s vb n hb0 hb1 hh0 hh1 J Jx (fun pre W1 W2 hj hb => hJ pre W1 W2 none hj (below_grows hb) (fun r e => by cases e)) hY W (hI.below hW) hJ0

/-- All but one block as it was. -/
def Turned (g : Nat) (w w' : World) : Prop := w.grownBy w' (some g)
theorem Turned.of_below {g : Nat} {w w' : World} (h : Below w.heap.size w w') : Turned g w w' := ⟨h.os, h.tape, h.output, h.size, fun k hk _ => h.block k hk⟩
theorem Turned.trans {g : Nat} {a b c : World} (h : Turned g a b) (k : Turned g b c) : Turned g a c :=
  ⟨k.os.trans h.os, k.tape.trans h.tape, k.output.trans h.output, Nat.le_trans h.size k.size, fun i hi hne => (k.block i (Nat.lt_of_lt_of_le hi h.size) hne).trans (h.block i hi hne)⟩
theorem Turned.refl (g : Nat) (w : World) : Turned g w w := Turned.of_below (Below.refl _ _)
theorem Turned.set {g : Nat} {w w' : World} (h : Turned g w w') (o : Nat) (v : Value) : Turned g w (w'.setCell ⟨g, o, none⟩ v) :=
  ⟨h.os, h.tape, h.output, by simpa using h.size, fun i hi hne => (Below.heap_setCell w' ⟨g, o, none⟩ v i (fun e => hne (by rw [e]))).trans (h.block i hi hne)⟩
theorem Turned.below {g n : Nat} {w w' : World} (h : Turned g w w') (hn : n ≤ w.heap.size) (hg : n ≤ g) : Below n w w' :=
  ⟨h.os, h.tape, h.output, h.size, fun k hk => h.block k (by omega) (by intro e; injection e with e; omega)⟩
theorem Turned.keepsL {g : Nat} {l : List Nat} {w w' : World} (h : Turned g w w') (hl : ∀ k ∈ l, k < w.heap.size ∧ k ≠ g) : KeepsL l w w' :=
  ⟨h.size, fun k hk => h.block k (hl k hk).1 (by intro e; injection e with e; exact (hl k hk).2 e)⟩
theorem ownFrom_turned {β : Type} {g B : Nat} {w₀ : World} (hB : w₀.heap.size ≤ B) : OwnFrom B (fun (_ : β) W => Turned g w₀ W) :=
  fun _ A A' row hs hg hr => ⟨hg.os.trans hs.os, hg.tape.trans hs.tape, hg.output.trans hs.output, Nat.le_trans hs.size hg.size, fun k hk hne => by
    refine (hg.block k (Nat.lt_of_lt_of_le hk hs.size) ?_).trans (hs.block k hk hne)
    intro e
    have := (hr k e.symm).1
    omega⟩
/-- An own slice's block. -/
theorem owns_at {w : World} {base : Nat} {e : TypeId} {n : Nat} {v : Value} {xs : List Value} (h : w.ownsRow base e 1 v n xs) (hn : n ≠ 0) : ∃ g cap, v = .slice (some ⟨g, 0, none⟩) n cap ∧ base ≤ g ∧ g < w.heap.size := by
  rcases h.2 with ⟨rfl, h0⟩ | ⟨g, cap, cur, rfl, hb, hg, _⟩
  · exact absurd h0 hn
  · exact ⟨g, cap, rfl, hb, (Array.getElem?_eq_some_iff.1 hg).1⟩
theorem owns_set {w : World} {base : Nat} {e : TypeId} {n g cap : Nat} {xs : List Value} (h : w.ownsRow base e 1 (.slice (some ⟨g, 0, none⟩) n cap) n xs) (i : Nat) (u : Value) : (w.setCell ⟨g, i, none⟩ u).ownsRow base e 1 (.slice (some ⟨g, 0, none⟩) n cap) n (xs.set i u) := by
  refine ⟨by rw [List.length_set]; exact h.1, ?_⟩
  rcases h.2 with ⟨h1, _⟩ | ⟨g', cap', cur, h1, hb, hg, hnc, hcm, hcs, ht⟩
  · cases h1
  · cases h1
    refine .inr ⟨g, cap, cur.setIfInBounds i u, rfl, hb, ?_, hnc, hcm, by simpa using hcs, ?_⟩
    · obtain ⟨hlt, hk⟩ := Array.getElem?_eq_some_iff.1 hg
      show (w.heap.modify g _)[g]? = _
      rw [Array.getElem?_eq_getElem (by rw [Array.size_modify]; exact hlt), Array.getElem_modify_self, hk]
      simp
    · rw [Array.toList_setIfInBounds, List.take_set, ht]
theorem owns_kept {w w' : World} {base : Nat} {e : TypeId} {n g cap : Nat} {xs : List Value} (h : w.ownsRow base e 1 (.slice (some ⟨g, 0, none⟩) n cap) n xs) (hg : w'.heap[g]? = w.heap[g]?) : w'.ownsRow base e 1 (.slice (some ⟨g, 0, none⟩) n cap) n xs := by
  refine ⟨h.1, ?_⟩
  rcases h.2 with ⟨h1, _⟩ | ⟨g', cap', cur, h1, hb, hg', r⟩
  · cases h1
  · cases h1
    exact .inr ⟨g, cap, cur, rfl, hb, hg.trans hg', r⟩
theorem owns_cell {w : World} {base : Nat} {n g cap : Nat} {l : List Int} (h : w.ownsRow base 5 1 (.slice (some ⟨g, 0, none⟩) n cap) n (l.map (Value.int .u8))) (i : Nat) (hi : i < l.length) : w.cell? ⟨g, i, none⟩ = some (.int .u8 (l[i]?.getD 0)) := by
  have := h.cells (g := g) rfl i (.int .u8 (l[i]?.getD 0)) (by rw [List.getElem?_map, List.getElem?_eq_getElem hi]; rfl)
  rw [addr_add] at this
  simpa using this
theorem owns_free {w : World} {base : Nat} {e : TypeId} {n g cap : Nat} {xs : List Value} (h : w.ownsRow base e 1 (.slice (some ⟨g, 0, none⟩) n cap) n xs) (i : Nat) : w.frozen? ⟨g, i, none⟩ = false := by
  rcases h.2 with ⟨h1, _⟩ | ⟨g', cap', cur, h1, hb, hg', r⟩
  · cases h1
  · cases h1
    simp [World.frozen?, hg']
theorem or8 (x y : Int) (hx : byte x) (hy : byte y) : bits .or .u8 x y = Sm.bor x y := by
  obtain ⟨hx0, hx1⟩ := hx; obtain ⟨hy0, hy1⟩ := hy
  obtain ⟨n, rfl⟩ := Int.eq_ofNat_of_zero_le hx0
  obtain ⟨m, rfl⟩ := Int.eq_ofNat_of_zero_le hy0
  have h1 : (BitVec.ofInt 8 (n : Int)).toNat = n := by rw [BitVec.ofInt_natCast, BitVec.toNat_ofNat]; exact Nat.mod_eq_of_lt (by omega)
  have h2 : (BitVec.ofInt 8 (m : Int)).toNat = m := by rw [BitVec.ofInt_natCast, BitVec.toNat_ofNat]; exact Nat.mod_eq_of_lt (by omega)
  have h3 : n ||| m < 2 ^ 8 := Nat.or_lt_two_pow (by omega) (by omega)
  show IntKind.u8.wrap ((BitVec.ofInt 8 (n : Int) ||| BitVec.ofInt 8 (m : Int)).toNat : Int) = _
  rw [BitVec.toNat_or, h1, h2, IntKind.wrap_u8]
  unfold Sm.bor
  rw [Int.toNat_natCast, Int.toNat_natCast]
  omega
end Go.Proofs.Ytconpdliadhahaa
