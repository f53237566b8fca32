/-
  Walks over package sieve: right, Check, long; a block of four cells.
-/
import Derived.Test.YtconpdliadhahaaTg
namespace Go.Proofs.Ytconpdliadhahaa
open Go.RowKit

/-- A block of four cells. -/
def Quad (W : World) (B : Nat) (t : TypeId) (x y z u : Value) : Prop := W.heap[B]? = some (.cells #[x, y, z, u] t (0, 0))
section
variable {W W' : World} {B n : Nat} {t : TypeId} {x y z u : Value}
theorem Quad.lt (h : Quad W B t x y z u) : B < W.heap.size := (Array.getElem?_eq_some_iff.1 h).1
theorem Quad.new (W : World) (t : TypeId) (x y z u : Value) : Quad (W.alloc (.cells #[x, y, z, u] t)) W.heap.size t x y z u := by show (W.heap.push _)[W.heap.size]? = _; simp
theorem Quad.new' (W : World) (t : TypeId) (x y z u : Value) (g : Nat) (hg : g = W.heap.size) : Quad (W.alloc (.cells #[x, y, z, u] t)) g t x y z u := by subst hg; exact Quad.new W t x y z u
theorem Quad.kept (h : Quad W B t x y z u) (hb : Below n W W') (hlt : B < n) : Quad W' B t x y z u := (hb.block B hlt).trans h
theorem Quad.stp (h : Quad W B t x y z u) (hb : Below W.heap.size W W') : Quad W' B t x y z u := h.kept hb h.lt
theorem Quad.alloc (h : Quad W B t x y z u) (o : Obj) : Quad (W.alloc o) B t x y z u := (Below.heap_alloc W o B h.lt).trans h
theorem Quad.drew (h : Quad W B t x y z u) : Quad W.drew B t x y z u := h
theorem Quad.cell0 (h : Quad W B t x y z u) : W.cell? ⟨B, 0, none⟩ = some x := by simp [World.cell?, show W.heap[B]? = _ from h]
theorem Quad.cell1 (h : Quad W B t x y z u) : W.cell? ⟨B, 1, none⟩ = some y := by simp [World.cell?, show W.heap[B]? = _ from h]
theorem Quad.cell2 (h : Quad W B t x y z u) : W.cell? ⟨B, 2, none⟩ = some z := by simp [World.cell?, show W.heap[B]? = _ from h]
theorem Quad.cell3 (h : Quad W B t x y z u) : W.cell? ⟨B, 3, none⟩ = some u := by simp [World.cell?, show W.heap[B]? = _ from h]
theorem Quad.free (h : Quad W B t x y z u) (o : Nat) : W.frozen? ⟨B, o, none⟩ = false := by simp [World.frozen?, show W.heap[B]? = _ from h]
theorem Quad.set (h : Quad W B t x y z u) (k : Nat) (v : Value) : (W.setCell ⟨B, k, none⟩ v).heap[B]? = some (.cells (#[x, y, z, u].setIfInBounds k v) t (0, 0)) := by
  obtain ⟨hlt, hk⟩ := Array.getElem?_eq_some_iff.1 h
  show (W.heap.modify B _)[B]? = _
  rw [Array.getElem?_eq_getElem (by rw [Array.size_modify]; exact hlt), Array.getElem_modify_self, hk]; simp
theorem Quad.set0 (h : Quad W B t x y z u) (v : Value) : Quad (W.setCell ⟨B, 0, none⟩ v) B t v y z u := h.set 0 v
theorem Quad.set1 (h : Quad W B t x y z u) (v : Value) : Quad (W.setCell ⟨B, 1, none⟩ v) B t x v z u := h.set 1 v
theorem Quad.set2 (h : Quad W B t x y z u) (v : Value) : Quad (W.setCell ⟨B, 2, none⟩ v) B t x y v u := h.set 2 v
theorem Quad.set3 (h : Quad W B t x y z u) (v : Value) : Quad (W.setCell ⟨B, 3, none⟩ v) B t x y z v := h.set 3 v
theorem Quad.other (h : Quad W B t x y z u) {p : Addr} (hp : p.block ≠ B) (v : Value) : Quad (W.setCell p v) B t x y z u := (Below.heap_setCell W p v B (fun e => hp e.symm)).trans h
end

instance (n : Int) : Decidable (Sm.right n) := by unfold Sm.right; infer_instance

set_option maxHeartbeats 400000 in
theorem right_any (n : Int) (w : World) : Calls Try.prog 56 #[.int .i64 n] w fun e w' => e = .returned (.bool (decide (Sm.right n))) ∧ w = w' := by
  by_cases h0 : 0 ≤ n
  · by_cases h1 : n ≤ 1099511627776
    · go_enter Try.func56, Try.ntmps56
      go_wp2
      go_ret
      exact ⟨ret_bool (decide_eq_true ⟨by omega, by omega⟩).symm, rfl⟩
    · go_enter Try.func56, Try.ntmps56
      go_wp2
      go_ret
      exact ⟨ret_bool (decide_eq_false (fun h => by have := h.1; have := h.2; omega)).symm, rfl⟩
  · go_enter Try.func56, Try.ntmps56
    go_wp2
    go_ret
    exact ⟨ret_bool (decide_eq_false (fun h => by have := h.1; have := h.2; omega)).symm, rfl⟩

theorem and7 (x : Int) (h0 : 0 ≤ x) (h1 : x < 9223372036854775808) : bits .and .i64 x 7 = x % 8 := by
  have two63 : (2 : Int) ^ 63 = 9223372036854775808 := by decide
  have h := bits_mask .i64 63 (by decide) (fun n h0 h1 => by rw [two63] at h1; rw [IntKind.wrap_i64]; omega) 3 (by decide) x h0 (by rw [two63]; omega)
  have e : ((2 : Int) ^ 3 - 1) = 7 := by decide
  rw [e] at h
  rw [h]; rfl

set_option maxHeartbeats 1000000 in
theorem Check_any (s : Sm.Sv) (vb : Value) (w : World) (h : Row .u8 w vb s.b) :
    Calls Try.prog 44 #[.agg #[.int .i64 s.bits, .int .i64 s.hashes, .int .i64 s.salt, vb]] w fun e w' => (∃ c : Int, e = .returned (.int .i64 c) ∧ ((Sm.ok s ∧ c = 0) ∨ (¬ Sm.ok s ∧ c = 1))) ∧ Below w.heap.size w w' := by
  obtain ⟨bits', hashes, salt, b⟩ := s
  obtain ⟨a, c, rfl⟩ := h.shape b.length rfl
  dsimp only
  clear h
  by_cases h1 : bits' < 8
  · go_enter Try.func44, Try.ntmps44
    go_wp2_with fail
    go_ret
    exact ⟨⟨1, rfl, .inr ⟨fun h => by have := h.1; have := h.2.1; have := h.2.2.2.1; have := h.2.2.2.2.1; dsimp only at *; omega, rfl⟩⟩, (Below.refl _ _).alloc (Nat.le_refl _) _⟩
  by_cases h2 : 8192 < bits'
  · go_enter Try.func44, Try.ntmps44
    go_wp2_with fail
    go_ret
    exact ⟨⟨1, rfl, .inr ⟨fun h => by have := h.1; have := h.2.1; have := h.2.2.2.1; have := h.2.2.2.2.1; dsimp only at *; omega, rfl⟩⟩, (Below.refl _ _).alloc (Nat.le_refl _) _⟩
  have e7 := and7 bits' (by omega) (by omega)
  by_cases h3 : bits' % 8 = 0
  case neg =>
    go_enter Try.func44, Try.ntmps44
    go_wp2_with fail
    go_ret
    exact ⟨⟨1, rfl, .inr ⟨fun h => h3 h.2.2.1, rfl⟩⟩, (Below.refl _ _).alloc (Nat.le_refl _) _⟩
  by_cases h4 : hashes < 1
  · go_enter Try.func44, Try.ntmps44
    go_wp2_with fail
    go_ret
    exact ⟨⟨1, rfl, .inr ⟨fun h => by have := h.1; have := h.2.1; have := h.2.2.2.1; have := h.2.2.2.2.1; dsimp only at *; omega, rfl⟩⟩, (Below.refl _ _).alloc (Nat.le_refl _) _⟩
  by_cases h5 : 8 < hashes
  · go_enter Try.func44, Try.ntmps44
    go_wp2_with fail
    go_ret
    exact ⟨⟨1, rfl, .inr ⟨fun h => by have := h.1; have := h.2.1; have := h.2.2.2.1; have := h.2.2.2.2.1; dsimp only at *; omega, rfl⟩⟩, (Below.refl _ _).alloc (Nat.le_refl _) _⟩
  by_cases h6 : Sm.right salt
  case neg =>
    have hd := decide_eq_false h6
    go_enter Try.func44, Try.ntmps44
    go_wp2_with fail
    refine (right_any salt _).mono ?_; rintro e w' ⟨rfl, rfl⟩
    rw [hd]
    go_wp2_with fail
    go_ret
    exact ⟨⟨1, rfl, .inr ⟨fun h => h6 h.2.2.2.2.2.1, rfl⟩⟩, (Below.refl _ _).alloc (Nat.le_refl _) _⟩
  have hd := decide_eq_true h6
  have H6 := Lib.hid h6
  clear h6
  by_cases h7 : (b.length : Int) = bits' / 8
  · go_enter Try.func44, Try.ntmps44
    go_wp2_with fail
    refine (right_any salt _).mono ?_; rintro e w' ⟨rfl, rfl⟩
    rw [hd]
    go_wp2_with fail
    go_ret
    exact ⟨⟨0, rfl, .inl ⟨⟨by omega, by omega, h3, by omega, by omega, H6.out, h7⟩, rfl⟩⟩, (Below.refl _ _).alloc (Nat.le_refl _) _⟩
  · go_enter Try.func44, Try.ntmps44
    go_wp2_with fail
    refine (right_any salt _).mono ?_; rintro e w' ⟨rfl, rfl⟩
    rw [hd]
    go_wp2_with fail
    go_ret
    exact ⟨⟨1, rfl, .inr ⟨fun h => h7 h.2.2.2.2.2.2, rfl⟩⟩, (Below.refl _ _).alloc (Nat.le_refl _) _⟩

set_option maxRecDepth 100000 in
set_option maxHeartbeats 2000000 in
theorem long_any (n : Int) (w : World) (h0 : 0 ≤ n) (h1 : n ≤ 1099511627776) :
    Calls Try.prog 66 #[.int .i64 n] w fun e w' => e = .returned (.slice (some ⟨w.heap.size, 0, none⟩) 8 8) ∧ Row .u8 w' (.slice (some ⟨w.heap.size, 0, none⟩) 8 8) (Hm.be 8 n) ∧ w.heap.size < w'.heap.size ∧ Below w.heap.size w w' := by
  have hmk : ∀ w, (Instr.makeSlice 55 (.int .i64 8) (.int .i64 8)).run Try.prog w = .ok (.slice (some ⟨w.heap.size, 0, none⟩) 8 8) (w.alloc (.cells #[.int .u8 0, .int .u8 0, .int .u8 0, .int .u8 0, .int .u8 0, .int .u8 0, .int .u8 0, .int .u8 0] 5)) := fun _ => by kernel_rfl
  go_enter Try.func66, Try.ntmps66
  go_wp2_with fail
  refine wp_loop_rounds 9 ?_
  rw [rounds_succ]
  go_wp2_with fail
  rw [rounds_succ]
  go_wp2_with fail
  rw [rounds_succ]
  go_wp2_with fail
  rw [rounds_succ]
  go_wp2_with fail
  rw [rounds_succ]
  go_wp2_with fail
  rw [rounds_succ]
  go_wp2_with fail
  rw [rounds_succ]
  go_wp2_with fail
  rw [rounds_succ]
  go_wp2_with fail
  rw [rounds_succ]
  go_wp2_with fail
  go_ret
  have e : [n / 72057594037927936, n / 281474976710656, n / 1099511627776, n / 4294967296 % 256, n / 16777216 % 256, n / 65536 % 256, n / 256 % 256, n % 256] = Hm.be 8 n := by
    simp [Hm.be]
    refine ⟨?_, ?_, ?_⟩ <;> omega
  have r := Row.lit .u8 w 5 _ (by rw [Hm.be_length]; unfold maxLen; omega) (fun x hx => byte_wf_of (Hm.be_byte 8 n x hx))
  rw [Hm.be_length] at r
  rw [← e] at r ⊢
  exact ⟨rfl, r, by simp, (Below.refl _ _).alloc (Nat.le_refl _) _⟩
end Go.Proofs.Ytconpdliadhahaa
