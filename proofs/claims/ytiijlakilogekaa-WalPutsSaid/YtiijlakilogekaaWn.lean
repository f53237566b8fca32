/-
  The reference's Read: plain facts.
-/
import Derived.Test.YtiijlakilogekaaWt
namespace Go.Proofs.Ytiijlakilogekaa
open Go.RowKit

theorem four_bytes (c : List Int) (h : 20 ≤ c.length) (hb : ∀ x ∈ c, byte x) : ∃ p q r s, c.take 4 = [p, q, r, s] ∧ c[0]?.getD 0 = p ∧ c[1]?.getD 0 = q ∧ c[2]?.getD 0 = r ∧ c[3]?.getD 0 = s ∧ byte p ∧ byte q ∧ byte r ∧ byte s := by
  rcases c with _ | ⟨p, _ | ⟨q, _ | ⟨r, _ | ⟨s, t⟩⟩⟩⟩
  all_goals (try (simp at h; done))
  exact ⟨p, q, r, s, rfl, rfl, rfl, rfl, rfl, hb p (by simp), hb q (by simp), hb r (by simp), hb s (by simp)⟩
theorem Wm.told_four (c : List Int) (p q r s : Int) (h : c.take 4 = [p, q, r, s]) : Wm.told c = ((p * 256 + q) * 256 + r) * 256 + s := by
  unfold Wm.told; rw [h, Wm.num_four]
theorem be_four (p q r s : Int) (hp : byte p) (hq : byte q) (hr : byte r) (hs : byte s) : Hm.be 4 (((p * 256 + q) * 256 + r) * 256 + s) = [p, q, r, s] := by
  unfold byte at hp hq hr hs
  simp only [Hm.be, Int.pow_succ, Int.pow_zero, Int.one_mul]
  refine List.cons_eq_cons.2 ⟨by omega, List.cons_eq_cons.2 ⟨by omega, List.cons_eq_cons.2 ⟨by omega, List.cons_eq_cons.2 ⟨by omega, rfl⟩⟩⟩⟩
theorem Wm.whole_iff (c : List Int) (h : 20 ≤ c.length) (hb : ∀ x ∈ c, byte x) (ht : Wm.told c ≤ 4096) (hn : Wm.long c + 20 ≤ c.length) : Wm.whole c ↔ Wm.frame ((c.drop 4).take (Wm.long c)) = c.take (Wm.long c + 20) := by
  obtain ⟨p, q, r, s, h4, -, -, -, -, hp, hq, hr, hs⟩ := four_bytes c h hb
  have hto := Wm.told_four c p q r s h4
  have h0 := Wm.told_nonneg c hb
  have hx : ((c.drop 4).take (Wm.long c)).length = Wm.long c := by simp; omega
  have hbe : Hm.be 4 (((c.drop 4).take (Wm.long c)).length : Int) = c.take 4 := by
    rw [hx, h4, ← be_four p q r s hp hq hr hs, ← hto]
    unfold Wm.long
    rw [Int.toNat_of_nonneg h0]
  have e : c.take (Wm.long c + 20) = c.take 4 ++ (c.drop 4).take (Wm.long c) ++ (c.drop (4 + Wm.long c)).take 16 := by
    rw [show Wm.long c + 20 = 4 + (Wm.long c + 16) by omega, List.take_add, List.take_add, List.drop_drop, List.append_assoc]
  unfold Wm.frame
  rw [hbe, e]
  constructor
  · intro hw; rw [hw.2.2.2]
  · intro he
    exact ⟨h, ht, hn, (List.append_inj he rfl).2⟩
/-- One step, or the end. -/
theorem Wm.read_at (b : List Int) (n : Nat) (ls : List (List Int)) (h1 : Wm.read b = ls ++ Wm.read (b.drop n)) (h2 : Wm.good b = n + Wm.good (b.drop n)) (hw : Wm.whole (b.drop n)) :
    Wm.read b = (ls ++ [((b.drop n).drop 4).take (Wm.long (b.drop n))]) ++ Wm.read (b.drop (n + Wm.long (b.drop n) + 20)) ∧ Wm.good b = (n + Wm.long (b.drop n) + 20) + Wm.good (b.drop (n + Wm.long (b.drop n) + 20)) := by
  obtain ⟨e1, e2⟩ := Wm.read_whole _ hw
  rw [e1] at h1
  rw [e2] at h2
  rw [List.drop_drop] at h1 h2
  rw [show n + Wm.long (b.drop n) + 20 = n + (Wm.long (b.drop n) + 20) by omega]
  refine ⟨by rw [h1]; simp, by omega⟩
theorem Wm.read_end (b : List Int) (n : Nat) (ls : List (List Int)) (h1 : Wm.read b = ls ++ Wm.read (b.drop n)) (h2 : Wm.good b = n + Wm.good (b.drop n)) (hw : ¬ Wm.whole (b.drop n)) : Wm.read b = ls ∧ Wm.good b = n := by
  obtain ⟨e1, e2⟩ := Wm.read_not _ hw
  rw [e1] at h1
  rw [e2] at h2
  exact ⟨by simpa using h1, by omega⟩
/-- What is read is of the bytes. -/
theorem Wm.read_mem (b : List Int) : ∀ l ∈ Wm.read b, ∀ x ∈ l, x ∈ b := by
  induction b using Wm.induct with
  | h0 b h => rw [(Wm.read_not b h).1]; simp
  | h1 b h ih =>
    rw [(Wm.read_whole b h).1]
    intro l hl x hx
    rcases List.mem_cons.1 hl with rfl | hl
    · exact List.mem_of_mem_drop (List.mem_of_mem_take hx)
    · exact List.mem_of_mem_drop (ih l hl x hx)
end Go.Proofs.Ytiijlakilogekaa
