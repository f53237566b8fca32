/-
  The walk over sieve.Of.
-/
import Derived.Test.YtconpdliadhahaaSu
namespace Go.Proofs.Ytconpdliadhahaa
open Go.RowKit

/-- All places of numbers. -/
def Sm.allPlaces (z : Sm.Sv) (l : List Int) : List Nat := l.flatMap (Sm.places z.bits z.hashes z.salt)
def Sm.allRight (l : List Int) : Prop := ∀ x ∈ l, Sm.right x
theorem Sm.allPlaces_snoc (z : Sm.Sv) (l : List Int) (k : Nat) (h : k < l.length) : Sm.allPlaces z (l.take (k + 1)) = Sm.allPlaces z (l.take k) ++ Sm.places z.bits z.hashes z.salt (l[k]?.getD 0) := by
  unfold Sm.allPlaces
  rw [List.take_succ_eq_append_getElem h, List.flatMap_append, List.getElem?_eq_getElem h]
  simp
/-- What Of hands back. -/
def Ofed (w w' : World) (e : Ending) (z : Sm.Sv) (l : List Int) : Prop :=
  ((Sm.ok z ∧ Sm.allRight l) ∧ ∃ g, e = .returned (.tuple #[.agg #[.int .i64 z.bits, .int .i64 z.hashes, .int .i64 z.salt, .slice (some ⟨g, 0, none⟩) z.b.length z.b.length], .int .i64 0]) ∧
    w'.ownsRow w.heap.size 5 1 (.slice (some ⟨g, 0, none⟩) z.b.length z.b.length) z.b.length ((Sm.puts z.b (Sm.allPlaces z l)).map (Value.int .u8))) ∨
  (¬ (Sm.ok z ∧ Sm.allRight l) ∧ e = .returned (.tuple #[.agg #[.int .i64 0, .int .i64 0, .int .i64 0, .slice none 0 0], .int .i64 1]))

/-- The loop's state, where all is well so far. -/
def OfGood (wr : World) (B X g len : Nat) (z : Sm.Sv) (l : List Int) (k : Nat) : Prop :=
  (∀ i, i < k → Sm.right (l[i]?.getD 0)) ∧ Quad wr X 57 (.int .i64 z.bits) (.int .i64 z.hashes) (.int .i64 z.salt) (.slice (some ⟨g, 0, none⟩) len len) ∧
    wr.ownsRow (B + 1) 5 1 (.slice (some ⟨g, 0, none⟩) len len) len ((Sm.puts z.b (Sm.allPlaces z (l.take k))).map (Value.int .u8))

set_option maxRecDepth 100000 in
set_option maxHeartbeats 2000000 in
theorem Of_sv (vl : Value) (l : List Int) (bits' hashes salt : Int) (w : World) (h : Row .i64 w vl l) (hl : l.length ≤ 1000) :
    Calls Try.prog 64 #[vl, .int .i64 bits', .int .i64 hashes, .int .i64 salt] w fun e w' => Ofed w w' e (Sm.fresh bits' hashes salt) l ∧ Below w.heap.size w w' := by
  obtain ⟨z, hz⟩ : ∃ z, Sm.fresh bits' hashes salt = z := ⟨_, rfl⟩
  have zb : bits' = z.bits := by rw [← hz]; rfl
  have zh : hashes = z.hashes := by rw [← hz]; rfl
  have zs : salt = z.salt := by rw [← hz]; rfl
  have hzy : Sm.bytes z.b := by rw [← hz]; exact Sm.zero_bytes _
  have hN := fun W => New_any bits' hashes salt W
  rw [hz] at hN ⊢
  subst zb zh zs
  obtain ⟨len, hlen⟩ : ∃ len, z.b.length = len := ⟨_, rfl⟩
  have HL := Lib.hid hlen; have HZy := Lib.hid hzy
  clear hz hzy hlen
  obtain ⟨a, cap, rfl⟩ := h.shape l.length rfl
  obtain ⟨B, hB⟩ : ∃ B, w.heap.size = B := ⟨_, rfl⟩
  have q0 := Quad.new w 57 (.int .i64 0) (.int .i64 0) (.int .i64 0) (.slice none 0 0)
  have hbw := (Below.refl w.heap.size w).alloc (Nat.le_refl _) (.cells #[.int .i64 0, .int .i64 0, .int .i64 0, .slice none 0 0] 57)
  have hlc : l.length ≤ cap := by obtain ⟨_, _, e, h1, _⟩ := h; cases e; exact h1
  rw [hB] at q0
  have HBW := Lib.hid hB
  have HR := Lib.hid h
  clear h
  go_enter Try.func64, Try.ntmps64
  go_wp2_with fail
  (try rw [hB])
  refine (hN _).mono ?_; rintro e w1 ⟨hnew, hb1⟩
  have q1 := q0.stp hb1
  have hw1 := hbw.trans (hb1.mono (by simp))
  have hs1 : B + 1 ≤ w1.heap.size := by have := hb1.size; simp [hB] at this; omega
  clear hN q0 hbw
  obtain ⟨X, hX⟩ : ∃ X, w1.heap.size = X := ⟨_, rfl⟩
  -- what New has handed back
  obtain ⟨v1, v2, v3, a4, n4, c4, cc, rfl, hst⟩ : ∃ (v1 v2 v3 : Int) (a4 : Option Addr) (n4 c4 : Nat) (cc : Int), e = .returned (.tuple #[.agg #[.int .i64 v1, .int .i64 v2, .int .i64 v3, .slice a4 n4 c4], .int .i64 cc]) ∧
      (∀ W, Below w1.heap.size w1 W → Quad W X 57 (.int .i64 v1) (.int .i64 v2) (.int .i64 v3) (.slice a4 n4 c4) → ((Sm.ok z ∧ cc = 0 ∧ ∃ g, g < X ∧ B + 1 ≤ g ∧ OfGood W B X g len z l 0) ∨ (¬ (Sm.ok z ∧ Sm.allRight l) ∧ cc = 1))) := by
    rcases hnew with ⟨hok, g, rfl, own⟩ | ⟨hok, rfl⟩
    · refine ⟨_, _, _, _, _, _, _, rfl, fun W hW hq => .inl ⟨hok, rfl, g, ?_, ?_, fun i hi => absurd hi (Nat.not_lt_zero _), ?_, ?_⟩⟩
      · have : z.b.length ≠ 0 := by obtain ⟨k1, k2, k3, k4, k5, k6, k7⟩ := hok; omega
        obtain ⟨g', cap', e', h1, h2⟩ := owns_at own this
        cases e'; omega
      · have : z.b.length ≠ 0 := by obtain ⟨k1, k2, k3, k4, k5, k6, k7⟩ := hok; omega
        obtain ⟨g', cap', e', h1, h2⟩ := owns_at own this
        cases e'; simp [hB] at h1; omega
      · rw [HL.out] at hq; exact hq
      · rw [HL.out] at own
        have := owns_below own hW
        simp [hB] at this
        exact this
    · exact ⟨_, _, _, _, _, _, _, rfl, fun W hW hq => .inr ⟨fun h => hok h.1, rfl⟩⟩
  have qX := Quad.new' w1 57 (.int .i64 v1) (.int .i64 v2) (.int .i64 v3) (.slice a4 n4 c4) X hX.symm
  have hst1 := hst _ ((Below.refl _ w1).alloc (Nat.le_refl _) _) qX
  have q2 := q1.alloc (.cells #[.int .i64 v1, .int .i64 v2, .int .i64 v3, .slice a4 n4 c4] 57)
  have hw2 := hw1.alloc hw1.size (.cells #[.int .i64 v1, .int .i64 v2, .int .i64 v3, .slice a4 n4 c4] 57)
  clear hst q1 hw1 hb1 hnew
  go_wp2_with fail
  have hlow := hw2.size
  go_loopw [11, 13, 23] (fun ev _ i wr => ∃ (k : Nat) (cc : Int), i = .int .i64 k ∧ ev = .int .i64 cc ∧ k ≤ l.length ∧ Quad wr B 57 (.int .i64 0) (.int .i64 0) (.int .i64 0) (.slice none 0 0) ∧ Below w.heap.size w wr ∧
      ((Sm.ok z ∧ cc = 0 ∧ ∃ g, g < X ∧ B + 1 ≤ g ∧ OfGood wr B X g len z l k) ∨ (¬ (Sm.ok z ∧ Sm.allRight l) ∧ cc = 1))) (fun _ _ i _ => l.length - (intOf i).toNat)
  case atStart => exact ⟨0, cc, rfl, rfl, Nat.zero_le _, q2, hw2, hst1⟩
  case round =>
    obtain ⟨k, cc', rfl, rfl, hk, hq, hb, hst⟩ := hrel
    clear q2 hst1 hw2
    have k0 : (0 : Int) ≤ (k : Int) := by omega
    have e1 : IntKind.i64.wrap ((k : Int) + 1) = (k : Int) + 1 := IntWalk.i64_in _ (by omega)
    have hlowr := hb.size
    by_cases hlt : k < l.length
    · have k1 : (k : Int) < (l.length : Int) := by omega
      have hrw := HR.out.below hb
      obtain ⟨_, _, e', _, _, _, hwf, h5⟩ := hrw
      cases e'
      obtain ⟨b0, o0, rfl, hb0, hc0⟩ := h5 (by rintro rfl; simp at hlt)
      have hck := hc0 k hlt
      obtain ⟨x, hx⟩ : ∃ x, l[k]?.getD 0 = x := ⟨_, rfl⟩
      rw [hx] at hck
      have hsn := Sm.allPlaces_snoc z l k hlt
      rw [hx] at hsn
      have HX := Lib.hid hx; have HSn := Lib.hid hsn
      clear hc0 h5 hx hsn hwf
      rcases hst with ⟨hok, rfl, g, hgX, hgB, hgood⟩ | ⟨hno, rfl⟩
      · obtain ⟨hr, hqX, ho⟩ := hgood
        have HOk := Lib.hid hok
        have c0 := hqX.cell0; have c1 := hqX.cell1; have c2 := hqX.cell2; have c3 := hqX.cell3
        have hpl : (Sm.puts z.b (Sm.allPlaces z (l.take k))).length = len := by rw [Sm.puts_length, HL.out]
        have hpb := Sm.puts_bytes HZy.out (Sm.allPlaces z (l.take k))
        obtain ⟨R, hR⟩ : ∃ R, Sm.puts z.b (Sm.allPlaces z (l.take k)) = R := ⟨_, rfl⟩
        rw [hR] at hpl hpb ho
        have hok' : Sm.ok ⟨z.bits, z.hashes, z.salt, R⟩ := by
          obtain ⟨k1, k2, k3, k4, k5, k6, k7⟩ := hok
          exact ⟨k1, k2, k3, k4, k5, k6, by show (R.length : Int) = _; rw [hpl, ← HL.out]; exact k7⟩
        have HRe := Lib.hid hR; have Hr := Lib.hid hr; have HOk' := Lib.hid hok'
        clear hR hr hok hok'
        go_wp2_with fail
        by_cases hn : Sm.right x
        · have hp := put_yes ⟨z.bits, z.hashes, z.salt, R⟩ g len (B + 1) x wr HOk'.out hn (by rw [hpl]; exact ho) hpb
          dsimp only at hp
          rw [hpl] at hp
          refine hp.mono ?_; rintro e w4 ⟨rfl, own4, ht⟩
          have q4 := hq.turned ht (by omega)
          have qX4 := hqX.turned ht (by omega)
          have hb4 := hb.trans (ht.below hlowr (by rw [HBW.out]; omega))
          have HN := Lib.hid hn
          have hO : w4.ownsRow (B + 1) 5 1 (.slice (some ⟨g, 0, none⟩) len len) len ((Sm.puts z.b (Sm.allPlaces z (l.take (k + 1)))).map (Value.int .u8)) := by
            rw [HSn.out, Sm.puts_append, HRe.out]; exact own4
          have hG : OfGood w4 B X g len z l (k + 1) := ⟨fun i hi => by
            rcases Nat.lt_or_ge i k with h | h
            · exact Hr.out i h
            · obtain rfl : i = k := by omega
              rw [HX.out]; exact HN.out, qX4, hO⟩
          have HG := Lib.hid hG
          clear hp own4 ho hO hG ht hq hqX qX4 c0 c1 c2 c3 hn hpb
          go_wp2_with fail
          go_roundw
          case rel => exact ⟨k + 1, 0, by go_num, rfl, by omega, q4, hb4, .inl ⟨HOk.out, rfl, g, hgX, hgB, HG.out⟩⟩
          case measure => simp [intOf]; omega
        · refine (put_no ⟨z.bits, z.hashes, z.salt, R⟩ _ x wr hn).mono ?_; rintro e w4 ⟨rfl, hb5⟩
          have q4 := hq.stp hb5
          have hb4 := hb.trans (hb5.mono hlowr)
          have hbad : ¬ (Sm.ok z ∧ Sm.allRight l) := fun h => hn (by rw [← HX.out, List.getElem?_eq_getElem hlt]; exact h.2 _ (List.getElem_mem hlt))
          have HBad := Lib.hid hbad
          clear ho hq hqX c0 c1 c2 c3 hn hbad hpb hb5
          go_wp2_with fail
          go_roundw
          case rel => exact ⟨k + 1, 1, by go_num, rfl, by omega, q4, hb4, .inr ⟨HBad.out, rfl⟩⟩
          case measure => simp [intOf]; omega
      · have HBad := Lib.hid hno
        clear hno
        go_wp2_with fail
        go_roundw
        case rel => exact ⟨k + 1, 1, by go_num, rfl, by omega, hq, hb, .inr ⟨HBad.out, rfl⟩⟩
        case measure => simp [intOf]; omega
    · obtain rfl : k = l.length := by omega
      have g0 := hq.cell0; have g1 := hq.cell1; have g2 := hq.cell2; have g3 := hq.cell3
      have f0 := hq.free 0; have f1 := hq.free 1; have f2 := hq.free 2; have f3 := hq.free 3
      rcases hst with ⟨hok, rfl, g, hgX, hgB, hgood⟩ | ⟨hno, rfl⟩
      · obtain ⟨hr, hqX, ho⟩ := hgood
        rw [List.take_length] at ho
        have c0 := hqX.cell0; have c1 := hqX.cell1; have c2 := hqX.cell2; have c3 := hqX.cell3
        have hall : Sm.allRight l := by
          intro x hx
          obtain ⟨i, hi, rfl⟩ := List.getElem_of_mem hx
          have := hr i hi
          rw [List.getElem?_eq_getElem hi] at this; exact this
        have HAll := Lib.hid hall; have HOk := Lib.hid hok
        clear hall hok hr
        go_wp2_with fail
        have hzz := (((hq.set0 (.int .i64 z.bits)).set1 (.int .i64 z.hashes)).set2 (.int .i64 z.salt)).set3 (.slice (some ⟨g, 0, none⟩) len len)
        refine bodyPost_ret (results_cell_tmp rfl _ _ B _ _ _ _ rfl hzz rfl rfl rfl) rfl ⟨.inl ⟨⟨HOk.out, HAll.out⟩, g, by rw [HL.out]; rfl, ?_⟩, ?_⟩
        · rw [HL.out, HBW.out]
          have o5 := owns_low ho (b := B) (by omega)
          exact (((ownsRow_setCell_other o5 (a := ⟨B, 0, none⟩) (by simp [Value.ownBlock]; omega) _ |> fun h => ownsRow_setCell_other h (a := ⟨B, 1, none⟩) (by simp [Value.ownBlock]; omega) _) |> fun h => ownsRow_setCell_other h (a := ⟨B, 2, none⟩) (by simp [Value.ownBlock]; omega) _) |> fun h => ownsRow_setCell_other h (a := ⟨B, 3, none⟩) (by simp [Value.ownBlock]; omega) _)
        · exact (((hb.setCell (by rw [HBW.out]; simp) _).setCell (by rw [HBW.out]; simp) _).setCell (by rw [HBW.out]; simp) _).setCell (by rw [HBW.out]; simp) _
      · have HBad := Lib.hid hno
        clear hno
        go_wp2_with fail
        have hzz := (((hq.set0 (.int .i64 0)).set1 (.int .i64 0)).set2 (.int .i64 0)).set3 (.slice none 0 0)
        refine bodyPost_ret (results_cell_tmp rfl _ _ B _ _ _ _ rfl hzz rfl rfl rfl) rfl ⟨.inr ⟨HBad.out, rfl⟩, ?_⟩
        exact (((hb.setCell (by rw [HBW.out]; simp) _).setCell (by rw [HBW.out]; simp) _).setCell (by rw [HBW.out]; simp) _).setCell (by rw [HBW.out]; simp) _
end Go.Proofs.Ytconpdliadhahaa
