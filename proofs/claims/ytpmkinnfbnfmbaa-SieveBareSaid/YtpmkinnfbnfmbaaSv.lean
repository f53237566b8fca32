/-
  The walk over sieve.Put.
-/
import Derived.Test.YtpmkinnfbnfmbaaSu
namespace Go.Proofs.Ytpmkinnfbnfmbaa
open Go.RowKit

theorem Quad.turned {W W' : World} {B g : Nat} {t : TypeId} {x y z u : Value} (h : Quad W B t x y z u) (ht : Turned g W W') (hne : B ≠ g) : Quad W' B t x y z u :=
  (ht.block B h.lt (by intro e; injection e with e; exact hne e)).trans h

/-- What Put hands back. -/
def Putted (w w' : World) (e : Ending) (s : Sm.Sv) (n : Int) : Prop :=
  ((Sm.ok s ∧ Sm.right n) ∧ ∃ g cap, e = .returned (.tuple #[.agg #[.int .i64 s.bits, .int .i64 s.hashes, .int .i64 s.salt, .slice (some ⟨g, 0, none⟩) s.b.length cap], .int .i64 0]) ∧
    w'.ownsRow w.heap.size 5 1 (.slice (some ⟨g, 0, none⟩) s.b.length cap) s.b.length ((Sm.puts s.b (Sm.places s.bits s.hashes s.salt n)).map (Value.int .u8))) ∨
  (¬ (Sm.ok s ∧ Sm.right n) ∧ e = .returned (.tuple #[.agg #[.int .i64 0, .int .i64 0, .int .i64 0, .slice none 0 0], .int .i64 1]))

set_option maxRecDepth 100000 in
set_option maxHeartbeats 1000000 in
theorem Put_any (s : Sm.Sv) (vb : Value) (n : Int) (w : World) (h : Row .u8 w vb s.b) :
    Calls Try.prog 11 #[.agg #[.int .i64 s.bits, .int .i64 s.hashes, .int .i64 s.salt, vb], .int .i64 n] w fun e w' => Putted w w' e s n ∧ Below w.heap.size w w' := by
  have hby := h.all_byte
  have HBy := Lib.hid hby
  clear hby
  obtain ⟨len, hlen⟩ : ∃ len, s.b.length = len := ⟨_, rfl⟩
  obtain ⟨a, cap, rfl⟩ := h.shape len hlen
  have HL := Lib.hid hlen
  clear hlen
  obtain ⟨B, hB⟩ : ∃ B, w.heap.size = B := ⟨_, rfl⟩
  have qS := (Quad.new w 24 (.int .i64 s.bits) (.int .i64 s.hashes) (.int .i64 s.salt) (.slice a len cap)).alloc (.cells #[.int .i64 0, .int .i64 0, .int .i64 0, .slice none 0 0] 24)
  have qR := Quad.new (w.alloc (.cells #[.int .i64 s.bits, .int .i64 s.hashes, .int .i64 s.salt, .slice a len cap] 24)) 24 (.int .i64 0) (.int .i64 0) (.int .i64 0) (.slice none 0 0)
  have hbw := ((Below.refl w.heap.size w).alloc (Nat.le_refl _) (.cells #[.int .i64 s.bits, .int .i64 s.hashes, .int .i64 s.salt, .slice a len cap] 24)).alloc (by simp) (.cells #[.int .i64 0, .int .i64 0, .int .i64 0, .slice none 0 0] 24)
  have r1 := (h.alloc (.cells #[.int .i64 s.bits, .int .i64 s.hashes, .int .i64 s.salt, .slice a len cap] 24)).alloc (.cells #[.int .i64 0, .int .i64 0, .int .i64 0, .slice none 0 0] 24)
  rw [World.size_alloc] at qR
  rw [hB] at qS qR
  have HBW := Lib.hid hB
  clear h
  have c0 := qS.cell0; have c1 := qS.cell1; have c2 := qS.cell2; have c3 := qS.cell3
  go_enter Try.func11, Try.ntmps11
  go_wp2_with fail
  (try rw [hB])
  refine (Check_any s _ _ r1).mono ?_; rintro e w1 ⟨⟨cc, rfl, hcc⟩, hb1⟩
  have hw1 := hbw.trans (hb1.mono (by simp; omega))
  have q1 := qS.stp hb1
  have p1 := qR.stp hb1
  have r2 := r1.below hb1
  have hsz1 : B + 2 ≤ w1.heap.size := by have := hb1.size; simp [hB] at this; omega
  clear c0 c1 c2 c3 qS qR hbw r1 hb1 hB
  have g0 := p1.cell0; have g1 := p1.cell1; have g2 := p1.cell2; have g3 := p1.cell3
  have f0 := p1.free 0; have f1 := p1.free 1; have f2 := p1.free 2; have f3 := p1.free 3
  rcases hcc with ⟨hok, rfl⟩ | ⟨hok, rfl⟩
  case inr =>
    have HOK := Lib.hid hok
    clear hok
    go_wp2_with fail
    have hzz := (((p1.set0 (.int .i64 0)).set1 (.int .i64 0)).set2 (.int .i64 0)).set3 (.slice none 0 0)
    refine bodyPost_ret (results_cell_tmp rfl _ _ (B + 1) _ _ _ _ rfl hzz rfl rfl rfl) rfl ⟨.inr ⟨fun h => HOK.out h.1, rfl⟩, ?_⟩
    exact (((hw1.setCell (by rw [HBW.out]; simp) _).setCell (by rw [HBW.out]; simp) _).setCell (by rw [HBW.out]; simp) _).setCell (by rw [HBW.out]; simp) _
  have HOK := Lib.hid hok
  have hl1 : 1 ≤ len ∧ len ≤ 1024 := by
    obtain ⟨k1, k2, k3, k4, k5, k6, k7⟩ := hok
    rw [HL.out] at k7
    omega
  clear hok g0 g1 g2 g3 f0 f1 f2 f3
  have c0 := q1.cell0; have c1 := q1.cell1; have c2 := q1.cell2; have c3 := q1.cell3
  have f3 := q1.free 3
  go_wp2_with fail
  refine (Clone8_any _ s.b _ r2 (by rw [HL.out]; omega)).mono ?_; rintro e w2 ⟨r, rfl, own2, hb2⟩
  rw [HL.out] at own2
  obtain ⟨g, cap2, rfl, hg1, hg2⟩ := owns_at own2 (by omega)
  have q2 := q1.stp hb2
  have p2 := p1.stp hb2
  have hw2 := hw1.trans (hb2.mono hw1.size)
  clear c0 c1 c2 c3 q1 p1 f3 r2 hb2
  have c0 := q2.cell0; have c1 := q2.cell1; have c2 := q2.cell2; have c3 := q2.cell3
  have f3 := q2.free 3
  have q3 := q2.set3 (.slice (some ⟨g, 0, none⟩) len cap2)
  have p3 := p2.other (p := ⟨B, 3, none⟩) (by simp) (.slice (some ⟨g, 0, none⟩) len cap2)
  have own3 := ownsRow_setCell_other own2 (a := ⟨B, 3, none⟩) (by simp [Value.ownBlock]; omega) (.slice (some ⟨g, 0, none⟩) len cap2)
  have hw3 := hw2.setCell (p := ⟨B, 3, none⟩) (by rw [HBW.out]; exact Nat.le_refl _) (.slice (some ⟨g, 0, none⟩) len cap2)
  go_wp2_with fail
  obtain ⟨W, hW⟩ : ∃ W, w2.setCell ⟨B, 3, none⟩ (.slice (some ⟨g, 0, none⟩) len cap2) = W := ⟨_, rfl⟩
  rw [hW] at q3 p3 own3 hw3 ⊢
  have hWs : W.heap.size = w2.heap.size := by rw [← hW]; simp
  clear hW c0 c1 c2 c3 f3 q2 p2 hw2 own2
  by_cases hn : Sm.right n
  · have hp := put_yes s g cap2 w1.heap.size n W HOK.out hn (by rw [HL.out]; exact own3) HBy.out
    rw [HL.out] at hp
    refine hp.mono ?_; rintro e w4 ⟨rfl, own4, ht⟩
    have q4 := q3.turned ht (by omega)
    have p4 := p3.turned ht (by omega)
    have hw4 := hw3.trans (ht.below hw3.size (by rw [HBW.out]; omega))
    have HN := Lib.hid hn
    clear hn hp q3 p3 hw3 own3 ht
    have c0 := q4.cell0; have c1 := q4.cell1; have c2 := q4.cell2; have c3 := q4.cell3
    have g0 := p4.cell0; have g1 := p4.cell1; have g2 := p4.cell2; have g3 := p4.cell3
    have f0 := p4.free 0; have f1 := p4.free 1; have f2 := p4.free 2; have f3 := p4.free 3
    go_wp2_with fail
    have hzz := (((p4.set0 (.int .i64 s.bits)).set1 (.int .i64 s.hashes)).set2 (.int .i64 s.salt)).set3 (.slice (some ⟨g, 0, none⟩) len cap2)
    refine bodyPost_ret (results_cell_tmp rfl _ _ (B + 1) _ _ _ _ rfl hzz rfl rfl rfl) rfl ⟨.inl ⟨⟨HOK.out, HN.out⟩, g, cap2, by rw [HL.out]; rfl, ?_⟩, ?_⟩
    · rw [HL.out, HBW.out]
      have o5 := owns_low own4 (b := B) (by omega)
      exact (((ownsRow_setCell_other o5 (a := ⟨B + 1, 0, none⟩) (by simp [Value.ownBlock]; omega) _ |> fun h => ownsRow_setCell_other h (a := ⟨B + 1, 1, none⟩) (by simp [Value.ownBlock]; omega) _) |> fun h => ownsRow_setCell_other h (a := ⟨B + 1, 2, none⟩) (by simp [Value.ownBlock]; omega) _) |> fun h => ownsRow_setCell_other h (a := ⟨B + 1, 3, none⟩) (by simp [Value.ownBlock]; omega) _)
    · exact (((hw4.setCell (by rw [HBW.out]; simp) _).setCell (by rw [HBW.out]; simp) _).setCell (by rw [HBW.out]; simp) _).setCell (by rw [HBW.out]; simp) _
  · refine (put_no s _ n W hn).mono ?_; rintro e w4 ⟨rfl, hb4⟩
    have p4 := p3.stp hb4
    have hw4 := hw3.trans (hb4.mono hw3.size)
    have HN := Lib.hid hn
    clear hn q3 p3 hw3 own3 hb4
    have g0 := p4.cell0; have g1 := p4.cell1; have g2 := p4.cell2; have g3 := p4.cell3
    have f0 := p4.free 0; have f1 := p4.free 1; have f2 := p4.free 2; have f3 := p4.free 3
    go_wp2_with fail
    have hzz := (((p4.set0 (.int .i64 0)).set1 (.int .i64 0)).set2 (.int .i64 0)).set3 (.slice none 0 0)
    refine bodyPost_ret (results_cell_tmp rfl _ _ (B + 1) _ _ _ _ rfl hzz rfl rfl rfl) rfl ⟨.inr ⟨fun h => HN.out h.2, rfl⟩, ?_⟩
    exact (((hw4.setCell (by rw [HBW.out]; simp) _).setCell (by rw [HBW.out]; simp) _).setCell (by rw [HBW.out]; simp) _).setCell (by rw [HBW.out]; simp) _
end Go.Proofs.Ytpmkinnfbnfmbaa
