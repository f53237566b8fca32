/-
  The contracts of package sieve as the laws' walks use them; what they mean.
-/
import Derived.Test.YtconpdliadhahaaSs
namespace Go.Proofs.Ytconpdliadhahaa
open Go.RowKit

/-- The same sieve with other bytes. -/
def Sm.Sv.with (s : Sm.Sv) (b : List Int) : Sm.Sv := ⟨s.bits, s.hashes, s.salt, b⟩
theorem Sm.ok_with (s : Sm.Sv) (b : List Int) (h : Sm.ok s) (hl : b.length = s.b.length) : Sm.ok (s.with b) := by
  obtain ⟨k1, k2, k3, k4, k5, k6, k7⟩ := h
  exact ⟨k1, k2, k3, k4, k5, k6, by show (b.length : Int) = _; rw [hl]; exact k7⟩
theorem Sm.places_in (s : Sm.Sv) (n : Int) (h : Sm.ok s) : ∀ q ∈ Sm.places s.bits s.hashes s.salt n, q / 8 < s.b.length := by
  intro q hq
  obtain ⟨k1, k2, k3, k4, k5, k6, k7⟩ := h
  have := Sm.places_lt s.bits s.hashes s.salt n (by omega) q hq
  omega
theorem Sm.places_ne (s : Sm.Sv) (n : Int) (h : Sm.ok s) : ∃ q, q ∈ Sm.places s.bits s.hashes s.salt n := by
  obtain ⟨k1, k2, k3, k4, k5, k6, k7⟩ := h
  have hl := Sm.places_len s.bits s.hashes s.salt n
  exact ⟨(Sm.places s.bits s.hashes s.salt n)[0]'(by omega), List.getElem_mem _⟩
theorem Sm.has_iff (s : Sm.Sv) (n : Int) : Sm.has s n = true ↔ (Sm.ok s ∧ Sm.right n) ∧ ∀ q ∈ Sm.places s.bits s.hashes s.salt n, Sm.bit s.b q = true := by
  unfold Sm.has
  simp only [Bool.and_eq_true, decide_eq_true_eq, List.all_eq_true]
theorem Sm.has_zero (s : Sm.Sv) (n : Int) (k : Nat) (h : s.b = List.replicate k 0) : Sm.has s n = false := by
  rw [← Bool.not_eq_true]
  intro ht
  obtain ⟨hok, ha⟩ := (Sm.has_iff s n).1 ht
  obtain ⟨q, hq⟩ := Sm.places_ne s n hok.1
  have := ha q hq
  rw [h, Sm.bit_zero] at this
  cases this
theorem Sm.has_with (s : Sm.Sv) (n : Int) (qs : List Nat) (h : Sm.ok s) (hn : Sm.right n) (hq : ∀ q ∈ qs, q / 8 < s.b.length) (hin : ∀ q ∈ Sm.places s.bits s.hashes s.salt n, q ∈ qs ∨ Sm.bit s.b q = true) : Sm.has (s.with (Sm.puts s.b qs)) n = true := by
  refine (Sm.has_iff _ n).2 ⟨⟨Sm.ok_with s _ h (Sm.puts_length _ _), hn⟩, fun q hqq => ?_⟩
  show Sm.bit (Sm.puts s.b qs) q = true
  rw [Sm.bit_puts _ _ _ hq]
  rcases hin q hqq with h | h
  · simp [h]
  · simp [h]
theorem Sm.has_put (s : Sm.Sv) (n : Int) (h : Sm.ok s) (hn : Sm.right n) : Sm.has (s.with (Sm.puts s.b (Sm.places s.bits s.hashes s.salt n))) n = true :=
  Sm.has_with s n _ h hn (Sm.places_in s n h) fun _ hq => .inl hq
theorem Sm.has_more (s : Sm.Sv) (m : Int) (qs : List Nat) (hq : ∀ q ∈ qs, q / 8 < s.b.length) (ht : Sm.has s m = true) : Sm.has (s.with (Sm.puts s.b qs)) m = true := by
  obtain ⟨hok, ha⟩ := (Sm.has_iff s m).1 ht
  exact Sm.has_with s m qs hok.1 hok.2 hq fun q hqq => .inr (ha q hqq)
theorem Sm.has_full (s : Sm.Sv) (n : Int) (k : Nat) (h : Sm.ok s) (hn : Sm.right n) (hb : s.b = List.replicate k 255) : Sm.has s n = true := by
  refine (Sm.has_iff s n).2 ⟨⟨h, hn⟩, fun q hq => ?_⟩
  have hl := Sm.places_in s n h q hq
  rw [hb] at hl ⊢
  unfold Sm.bit
  rw [List.getElem?_eq_getElem hl]
  have h8 : q % 8 < 8 := Nat.mod_lt _ (by decide)
  simp only [List.getElem_replicate, Option.getD_some]
  have : q % 8 = 0 ∨ q % 8 = 1 ∨ q % 8 = 2 ∨ q % 8 = 3 ∨ q % 8 = 4 ∨ q % 8 = 5 ∨ q % 8 = 6 ∨ q % 8 = 7 := by omega
  rcases this with h | h | h | h | h | h | h | h <;> rw [h] <;> decide

theorem New_ok (bits' hashes salt : Int) (b : List Int) (w : World) (hok : Sm.ok (Sm.fresh bits' hashes salt)) (hb : (Sm.fresh bits' hashes salt).b = b) :
    Calls Try.prog 72 #[.int .i64 bits', .int .i64 hashes, .int .i64 salt] w fun e w' => ∃ a c, e = .returned (.tuple #[.agg #[.int .i64 bits', .int .i64 hashes, .int .i64 salt, .slice a b.length c], .int .i64 0]) ∧ Row .u8 w' (.slice a b.length c) b ∧ Below w.heap.size w w' := by
  refine (New_any bits' hashes salt w).mono ?_
  rintro e w' ⟨⟨-, g, rfl, own⟩ | ⟨hno, -⟩, hB⟩
  · rw [hb] at own
    have hby : Sm.bytes b := by rw [← hb]; exact Sm.zero_bytes _
    exact ⟨_, _, by rw [hb]; rfl, owns_row own hby, hB⟩
  · exact absurd hok hno
theorem New_bad (bits' hashes salt : Int) (w : World) (hno : ¬ Sm.ok (Sm.fresh bits' hashes salt)) :
    Calls Try.prog 72 #[.int .i64 bits', .int .i64 hashes, .int .i64 salt] w fun e w' => e = .returned (.tuple #[.agg #[.int .i64 0, .int .i64 0, .int .i64 0, .slice none 0 0], .int .i64 1]) ∧ Below w.heap.size w w' := by
  refine (New_any bits' hashes salt w).mono ?_
  rintro e w' ⟨⟨hok, -⟩ | ⟨-, rfl⟩, hB⟩
  · exact absurd hok hno
  · exact ⟨rfl, hB⟩
theorem Of_ok (vl : Value) (l : List Int) (bits' hashes salt : Int) (b : List Int) (w : World) (h : Row .i64 w vl l) (hl : l.length ≤ 1000) (hy : Sm.ok (Sm.fresh bits' hashes salt) ∧ Sm.allRight l)
    (hb : Sm.puts (Sm.fresh bits' hashes salt).b (Sm.allPlaces (Sm.fresh bits' hashes salt) l) = b) :
    Calls Try.prog 64 #[vl, .int .i64 bits', .int .i64 hashes, .int .i64 salt] w fun e w' => ∃ a c, e = .returned (.tuple #[.agg #[.int .i64 bits', .int .i64 hashes, .int .i64 salt, .slice a b.length c], .int .i64 0]) ∧ Row .u8 w' (.slice a b.length c) b ∧ Below w.heap.size w w' := by
  have hby : Sm.bytes b := by rw [← hb]; exact Sm.puts_bytes (Sm.zero_bytes _) _
  have hl2 : (Sm.fresh bits' hashes salt).b.length = b.length := by rw [← hb, Sm.puts_length]
  refine (Of_sv vl l bits' hashes salt w h hl).mono ?_
  rintro e w' ⟨⟨-, g, rfl, own⟩ | ⟨hno, -⟩, hB⟩
  · rw [hb, hl2] at own
    exact ⟨_, _, by rw [hl2]; rfl, owns_row own hby, hB⟩
  · exact absurd hy hno
theorem Of_bad (vl : Value) (l : List Int) (bits' hashes salt : Int) (w : World) (h : Row .i64 w vl l) (hl : l.length ≤ 1000) (hno : ¬ (Sm.ok (Sm.fresh bits' hashes salt) ∧ Sm.allRight l)) :
    Calls Try.prog 64 #[vl, .int .i64 bits', .int .i64 hashes, .int .i64 salt] w fun e w' => e = .returned (.tuple #[.agg #[.int .i64 0, .int .i64 0, .int .i64 0, .slice none 0 0], .int .i64 1]) ∧ Below w.heap.size w w' := by
  refine (Of_sv vl l bits' hashes salt w h hl).mono ?_
  rintro e w' ⟨⟨hy, -⟩ | ⟨-, rfl⟩, hB⟩
  · exact absurd hy hno
  · exact ⟨rfl, hB⟩
theorem Some_row (s : Sm.Sv) (vb vl : Value) (l L : List Int) (w : World) (h : Row .u8 w vb s.b) (hr : Row .i64 w vl l) (hl : l.length ≤ 1000000) (hL : l.filter (Sm.has s) = L) :
    Calls Try.prog 65 #[.agg #[.int .i64 s.bits, .int .i64 s.hashes, .int .i64 s.salt, vb], vl] w fun e w' => ∃ a c, e = .returned (.slice a L.length c) ∧ Row .i64 w' (.slice a L.length c) L ∧ Below w.heap.size w w' := by
  refine (Some_any s vb vl l w h hr hl).mono ?_
  rintro e w' ⟨v', rfl, own, hB⟩
  rw [hL] at own
  have r := Row.owned64 own (fun x hx => hr.wf x (by rw [← hL] at hx; exact (List.mem_filter.1 hx).1))
  obtain ⟨a, c, rfl⟩ := r.shape L.length rfl
  exact ⟨a, c, rfl, r, hB⟩
theorem Check_yes (s : Sm.Sv) (vb : Value) (w : World) (h : Row .u8 w vb s.b) (hok : Sm.ok s) :
    Calls Try.prog 44 #[.agg #[.int .i64 s.bits, .int .i64 s.hashes, .int .i64 s.salt, vb]] w fun e w' => e = .returned (.int .i64 0) ∧ Below w.heap.size w w' := by
  refine (Check_any s vb w h).mono ?_
  rintro e w' ⟨⟨c, rfl, ⟨-, rfl⟩ | ⟨hno, -⟩⟩, hB⟩
  · exact ⟨rfl, hB⟩
  · exact absurd hok hno
theorem Check_not (s : Sm.Sv) (vb : Value) (w : World) (h : Row .u8 w vb s.b) (hno : ¬ Sm.ok s) :
    Calls Try.prog 44 #[.agg #[.int .i64 s.bits, .int .i64 s.hashes, .int .i64 s.salt, vb]] w fun e w' => e = .returned (.int .i64 1) ∧ Below w.heap.size w w' := by
  refine (Check_any s vb w h).mono ?_
  rintro e w' ⟨⟨c, rfl, ⟨hok, -⟩ | ⟨-, rfl⟩⟩, hB⟩
  · exact absurd hok hno
  · exact ⟨rfl, hB⟩
/-- Has, its answer known ahead. -/
theorem Has_is (s : Sm.Sv) (vb : Value) (n : Int) (x : Bool) (w : World) (h : Row .u8 w vb s.b) (hx : Sm.has s n = x) :
    Calls Try.prog 41 #[.agg #[.int .i64 s.bits, .int .i64 s.hashes, .int .i64 s.salt, vb], .int .i64 n] w fun e w' => e = .returned (.bool x) ∧ Below w.heap.size w w' := by
  rw [← hx]; exact Has_any s vb n w h
end Go.Proofs.Ytconpdliadhahaa
