/-
  The walk over sieve.put.
-/
import Derived.Test.YtconpdliadhahaaSq
namespace Go.Proofs.Ytconpdliadhahaa
open Go.RowKit Go.Shelf
attribute [local go_sem] Oper.semAt_some

set_option maxRecDepth 100000 in
set_option maxHeartbeats 2000000 in
theorem put_no (s : Sm.Sv) (vb : Value) (n : Int) (w : World) (hn : ¬ Sm.right n) :
    Calls Try.prog 73 #[.agg #[.int .i64 s.bits, .int .i64 s.hashes, .int .i64 s.salt, vb], .int .i64 n] w fun e w' => e = .returned (.int .i64 1) ∧ Below w.heap.size w w' := by
  have hd := decide_eq_false hn
  go_enter Try.func73, Try.ntmps73
  go_wp2_with fail
  refine (right_any n _).mono ?_; rintro e w' ⟨rfl, rfl⟩
  rw [hd]
  go_wp2_with fail
  go_ret
  exact ⟨rfl, (Below.refl _ _).alloc (Nat.le_refl _) _⟩

theorem cells_kept {W W' : World} {row : Option Nat} {k : Nat} {c : Array Value} {t : TypeId} {f : Nat × Nat} (h : W.heap[k]? = some (.cells c t f)) (hg : W.grownBy W' row) (hr : ∀ r, row = some r → ∃ o : Obj, W.heap[r]? = some o ∧ o.isCells = false) : W'.heap[k]? = some (.cells c t f) := by
  refine (hg.block k (Array.getElem?_eq_some_iff.1 h).1 ?_).trans h
  intro e
  obtain ⟨o, ho, hc⟩ := hr k e.symm
  rw [h] at ho
  injection ho with ho
  subst ho
  cases hc
theorem ownFrom_row {β : Type} (base : Nat) (e : TypeId) (n g cap B : Nat) (f : β → List Value) : OwnFrom B (fun (s : β) W => W.ownsRow base e 1 (.slice (some ⟨g, 0, none⟩) n cap) n (f s)) := fun s A A' row hs hg hr => by
  refine ⟨hs.1, ?_⟩
  rcases hs.2 with ⟨h1, _⟩ | ⟨g', cap', cur, h1, hb, hg', r⟩
  · cases h1
  · cases h1
    exact .inr ⟨g, cap, cur, rfl, hb, cells_kept hg' hg (fun r e => (hr r e).2), r⟩
theorem ownFrom_quad {β : Type} (B : Nat) (D : Nat) (t : TypeId) (x y z u : Value) : OwnFrom B (fun (_ : β) W => Quad W D t x y z u) := fun _ _ _ _ hs hg hr => cells_kept hs hg (fun r e => (hr r e).2)

theorem Sm.places_len (bits' hashes salt n : Int) : (Sm.places bits' hashes salt n).length = hashes.toNat := by simp [Sm.places]
theorem Sm.places_lt (bits' hashes salt n : Int) (h : 0 < bits') : ∀ q ∈ Sm.places bits' hashes salt n, (q : Int) < bits' := by
  intro q hq
  obtain ⟨k, _, rfl⟩ := List.mem_map.1 hq
  exact Sm.place_lt _ _ _ _ h

set_option maxRecDepth 100000 in
set_option maxHeartbeats 2000000 in
theorem put_yes (s : Sm.Sv) (g cap base : Nat) (n : Int) (w : World) (hok : Sm.ok s) (hn : Sm.right n) (hown : w.ownsRow base 5 1 (.slice (some ⟨g, 0, none⟩) s.b.length cap) s.b.length (s.b.map (Value.int .u8))) (hby : Sm.bytes s.b) :
    Calls Try.prog 73 #[.agg #[.int .i64 s.bits, .int .i64 s.hashes, .int .i64 s.salt, .slice (some ⟨g, 0, none⟩) s.b.length cap], .int .i64 n] w fun e w' => e = .returned (.int .i64 0) ∧
      w'.ownsRow base 5 1 (.slice (some ⟨g, 0, none⟩) s.b.length cap) s.b.length ((Sm.puts s.b (Sm.places s.bits s.hashes s.salt n)).map (Value.int .u8)) ∧ Turned g w w' := by
  have hd := decide_eq_true hn
  have hgw : g < w.heap.size := by
    rcases hown.2 with ⟨h1, _⟩ | ⟨g', _, _, h1, _, hg', _⟩
    · cases h1
    · cases h1; exact (Array.getElem?_eq_some_iff.1 hg').1
  obtain ⟨k1, k2, k3, k4, k5, k6, k7⟩ := hok
  have HN := Lib.hid hn
  obtain ⟨len, hlen⟩ : ∃ len, s.b.length = len := ⟨_, rfl⟩
  have hlenb : (len : Int) = s.bits / 8 := by rw [← hlen]; exact k7
  rw [hlen] at hown ⊢
  have HL := Lib.hid hlen
  clear hn k7 hlen
  have qB := Quad.new w 57 (.int .i64 s.bits) (.int .i64 s.hashes) (.int .i64 s.salt) (.slice (some ⟨g, 0, none⟩) len cap)
  obtain ⟨B, hB⟩ : ∃ B, w.heap.size = B := ⟨_, rfl⟩
  have hW0 := (Below.refl w.heap.size w).alloc (Nat.le_refl _) (.cells #[.int .i64 s.bits, .int .i64 s.hashes, .int .i64 s.salt, .slice (some ⟨g, 0, none⟩) len cap] 57)
  have ho0 := hown.alloc (.cells #[.int .i64 s.bits, .int .i64 s.hashes, .int .i64 s.salt, .slice (some ⟨g, 0, none⟩) len cap] 57)
  rw [hB] at qB
  refine (callsIn_wide (n := 6)).1 ?_
  refine callsIn_of_wp_marks Try.func73 rfl trivial ?_ rfl
  simp only [Try.ntmps73, List.size_toArray, List.length_cons, List.length_nil, Nat.reduceAdd, Nat.reduceSub, Array.replicate_succ, Array.replicate_zero, List.push_toArray, List.append_toArray, List.nil_append, List.cons_append]
  gi_wp2_with (first
    | (refine ⟨trivial, ?_⟩; gi_at_call 56; refine (callsIn_wide.2 (right_any n _)).mono ?_; rintro e w' ⟨rfl, rfl⟩; rw [hd])
    | (refine ⟨trivial, ?_⟩; gi_at_call 57; refine (callsIn_wide.2 (places_any s (.slice (some ⟨g, 0, none⟩) len cap) n _ k6 HN.out)).mono ?_; rintro e w1 ⟨B', P, Q, gs, gn, rfl, hI, hnew, hb1⟩)
    | fail)
  have q1 := qB.stp hb1
  have o1 := owns_below ho0 hb1
  have hw1 : Below w.heap.size w w1 := hW0.trans (hb1.mono (by simp))
  have hgB : g ≠ B := by omega
  refine wpIn_rangeFunc_ownG rfl (by omega) (gf := 67) (lb := #[.pointer (some ⟨B', 0, none⟩), .pointer (some ⟨P, 0, none⟩), .pointer (some ⟨Q, 0, none⟩)]) rfl trivial (enters_of Try.func67 (by kernel_rfl) rfl)
    (places_stops _ (by omega) B' P Q gs gn s _ n k1 k2 k4 k5 _ hI) KeepsL.trans (KeepsL.b (fun k hk => (hnew k hk).2)) (Below.refl _ _) (fun _ => rfl)
    (fun pre W => W.ownsRow base 5 1 (.slice (some ⟨g, 0, none⟩) len cap) len ((Sm.puts s.b (pre.map (·.1))).map (Value.int .u8)) ∧ Quad W B 57 (.int .i64 s.bits) (.int .i64 s.hashes) (.int .i64 s.salt) (.slice (some ⟨g, 0, none⟩) len cap) ∧ Turned g w1 W)
    (fun _ _ _ => False)
    (OwnFrom.and (ownFrom_row base 5 len g cap _ (fun pre : List (Pc s.bits) => (Sm.puts s.b (pre.map (·.1))).map (Value.int .u8))) (OwnFrom.and (ownFrom_quad _ B 57 _ _ _ _) (ownFrom_turned (Nat.le_refl _))))
    (fun _ _ _ _ _ hs _ _ => hs)
    ⟨o1, q1, Turned.refl _ _⟩
    (fun x => { tmps := #[.agg #[.int .i64 s.bits, .int .i64 s.hashes, .int .i64 s.salt, .slice (some ⟨g, 0, none⟩) len cap], .int .i64 n, .pointer (some ⟨B, 0, none⟩), undef, .int .i64 0, .int .i64 (x.1 / 8 : Nat), .int .u8 (2 ^ (x.1 % 8) : Nat), .int .i64 n, .bool true, .bool false, .agg #[.int .i64 s.bits, .int .i64 s.hashes, .int .i64 s.salt, .slice (some ⟨g, 0, none⟩) len cap], .int .i64 n,
      .func (.func 67) #[] #[.pointer (some ⟨B', 0, none⟩), .pointer (some ⟨P, 0, none⟩), .pointer (some ⟨Q, 0, none⟩)], .int .i64 (x.1 / 8 : Nat), .int .u8 (2 ^ (x.1 % 8) : Nat), undef, undef, undef, undef, undef, undef, undef, undef], defers := [] }) ?assign ?body ?done ?stop
  case assign =>
    intro L x W K hK
    unfold pcEnc
    gi_wp2
    exact hK
  case body =>
    rintro L pre x W ⟨ho, hq, hT⟩ _
    obtain ⟨q, hqb⟩ := x
    dsimp only
    have hql : q / 8 < len := by omega
    have hpb : Sm.bytes (Sm.puts s.b (pre.map (·.1))) := Sm.puts_bytes hby _
    have hplen : (Sm.puts s.b (pre.map (·.1))).length = len := by rw [Sm.puts_length, HL.out]
    obtain ⟨R, hR⟩ : ∃ R, Sm.puts s.b (pre.map (·.1)) = R := ⟨_, rfl⟩
    have hsnoc : Sm.puts s.b ((pre ++ [(⟨q, hqb⟩ : Pc s.bits)]).map (·.1)) = R.set (q / 8) (Sm.bor (R[q / 8]?.getD 0) (2 ^ (q % 8))) := by
      rw [List.map_append]
      show Sm.puts s.b (pre.map (·.1) ++ [q]) = _
      rw [Sm.puts_snoc, hR]; rfl
    rw [hR] at ho hpb hplen
    have hcell := owns_cell ho (q / 8) (by omega)
    have hfr := owns_free ho (q / 8)
    have c3 := hq.cell3
    have hdb := Sm.byte_at R hpb (q / 8)
    obtain ⟨d, hd'⟩ : ∃ d, R[q / 8]?.getD 0 = d := ⟨_, rfl⟩
    have hmb := Sm.pow_byte (q % 8) (Nat.mod_lt _ (by decide))
    obtain ⟨m, hm⟩ : ∃ m : Int, (2 : Int) ^ (q % 8) = m := ⟨_, rfl⟩
    have hm' : ((2 ^ (q % 8) : Nat) : Int) = m := by rw [← hm]; simp
    obtain ⟨c, hc⟩ : ∃ c, q / 8 = c := ⟨_, rfl⟩
    rw [hd', hm] at hsnoc
    rw [hd'] at hcell hdb
    rw [hm] at hmb
    rw [hc] at hql hsnoc hcell hfr
    rw [hm', hc]
    have eor := or8 d m hdb hmb
    obtain ⟨z, hz⟩ : ∃ z, Sm.bor d m = z := ⟨_, rfl⟩
    rw [hz] at eor hsnoc
    have kc1 : (c : Int) < (len : Int) := by omega
    have HS := Lib.hid hsnoc; have HTu := Lib.hid hT
    have hgs : ∀ k ∈ [B', P, Q, gs, gn], k < W.heap.size ∧ k ≠ g := fun k hk => by
      have h1 := (hnew k hk).1
      have h2 := (hnew k hk).2
      have h3 := hT.size
      rw [World.size_alloc] at h1
      exact ⟨by omega, by omega⟩
    have HG := Lib.hid hgs
    clear hsnoc hR hd' hm hm' hz hc hT hgs
    gi_wp2_with fail
    refine ⟨(KeepsOthers.setCell _ _ _).from _, ((Turned.refl g W).set c (.int .u8 z)).keepsL HG.out, ?_, hq.other (p := ⟨g, c, none⟩) (by exact hgB) _, HTu.out.set c _⟩
    rw [HS.out, List.map_set]
    exact owns_set ho c (.int .u8 z)
  case done =>
    rintro D ys W hD hys ⟨ho, hq, hT⟩ hK
    rw [hys] at ho
    gi_wp2
    refine ⟨by simp, .inl ⟨_, _, rfl, run_takeDeferred hK, ?_⟩⟩
    refine ⟨_, results_tmp rfl _ _ _, rfl, ?_, ?_⟩
    · exact (ownFrom_row (β := Unit) base 5 len g cap 0 (fun _ => (Sm.puts s.b (Sm.places s.bits s.hashes s.salt n)).map (Value.int .u8))).putObj (s := ()) _ ho (Nat.zero_le _) hK rfl
    · exact (Turned.of_below hw1).trans ((ownFrom_turned (β := Unit) (Nat.le_refl _)).putObj (s := ()) _ hT hD hK rfl)
  case stop =>
    rintro D c pre W _ _ h _
    exact h.elim
end Go.Proofs.Ytconpdliadhahaa
