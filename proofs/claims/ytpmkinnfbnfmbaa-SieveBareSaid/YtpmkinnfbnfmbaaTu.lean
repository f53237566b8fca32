/-
  The walk over SieveBare.
-/
import Derived.Test.YtpmkinnfbnfmbaaTo
namespace Go.Proofs.Ytpmkinnfbnfmbaa
open Go.RowKit

theorem and1_8 (x : Int) (j : Nat) (hx : byte x) (hj : j < 8) : bits .and .u8 (x / 2 ^ j) 1 = ((x.toNat / 2 ^ j % 2 : Nat) : Int) := by
  obtain ⟨h0, h1⟩ := hx
  obtain ⟨n, rfl⟩ := Int.eq_ofNat_of_zero_le h0
  have key : ∀ n : Nat, n < 256 → ∀ j, j < 8 → bits .and .u8 ((n : Int) / 2 ^ j) 1 = ((n / 2 ^ j % 2 : Nat) : Int) := by decide +kernel
  rw [Int.toNat_natCast]
  exact key n (by omega) j hj
def Sm.some1 (x j : Nat) : Nat := ((List.range j).map fun t => x / 2 ^ t % 2).sum
theorem Sm.some1_succ (x j : Nat) : Sm.some1 x (j + 1) = Sm.some1 x j + x / 2 ^ j % 2 := by simp [Sm.some1, List.range_succ]
theorem Sm.some1_le (x j : Nat) : Sm.some1 x j ≤ j := by
  induction j with
  | zero => simp [Sm.some1]
  | succ j ih => rw [Sm.some1_succ]; have := Nat.mod_lt (x / 2 ^ j) (show 0 < 2 by decide); omega
theorem Sm.count_snoc (b : List Int) (k : Nat) (h : k < b.length) : Sm.count (b.take (k + 1)) = Sm.count (b.take k) + Sm.some1 (b[k]?.getD 0).toNat 8 := by
  rw [List.take_succ_eq_append_getElem h, List.getElem?_eq_getElem h]
  simp only [Sm.count, List.map_append, List.sum_append, List.map_cons, List.map_nil, List.sum_cons, List.sum_nil, Nat.add_zero]
  rfl
theorem Sm.count_le (b : List Int) (k : Nat) (h : k ≤ b.length) : Sm.count (b.take k) ≤ 8 * k := by
  induction k with
  | zero => simp [Sm.count]
  | succ k ih =>
    rw [Sm.count_snoc b k (by omega)]
    have := Sm.some1_le (b[k]?.getD 0).toNat 8
    have := ih (by omega)
    omega

set_option maxRecDepth 100000 in
set_option maxHeartbeats 4000000 in
theorem SieveBare_any (bits' hashes salt n : Int) (w : World) (_k1 : (Lit.int .i64 bits').wf = true) (_k2 : (Lit.int .i64 hashes).wf = true) (_k3 : (Lit.int .i64 salt).wf = true) (_k4 : (Lit.int .i64 n).wf = true) :
    Calls Try.prog 4 #[.int .i64 bits', .int .i64 hashes, .int .i64 salt, .int .i64 n] w fun e w' => e = .returned (.bool true) ∧ Below w.heap.size w w' := by
  obtain ⟨i8, hi8, hz80, hz81, hz82⟩ := info_parts info_u8
  have hB := Below.refl w.heap.size w
  clear _k1 _k2 _k3 _k4
  go_enter Try.func4, Try.ntmps4
  go_wp2_with fail
  refine (live_true _).mono ?_; rintro e w1 ⟨rfl, hb⟩
  replace hB := bel_stp hB hb
  clear hb
  by_cases hy : Sm.ok (Sm.fresh bits' hashes salt)
  case neg =>
    go_wp2_with fail
    refine (New_bad bits' hashes salt _ hy).mono ?_; rintro e w2 ⟨rfl, hb⟩
    replace hB := bel_stp hB hb
    clear hb
    have d0 := Quad.new w2 24 (.int .i64 0) (.int .i64 0) (.int .i64 0) (.slice none 0 0)
    clear hy
    have c3 := d0.cell3
    go_wp2_with fail
    go_ret
    exact ⟨rfl, (bel_alloc hB _)⟩
  obtain ⟨Z, hZ⟩ : ∃ Z, (Sm.fresh bits' hashes salt).b = Z := ⟨_, rfl⟩
  obtain ⟨len, hlen⟩ : ∃ len, Z.length = len := ⟨_, rfl⟩
  have hZr : Z = List.replicate len 0 := by rw [← hlen, ← hZ]; simp [Sm.fresh]
  have okZ : Sm.ok ⟨bits', hashes, salt, Z⟩ := by rw [← hZ]; exact hy
  obtain ⟨k1, k2, k3, k4, k5, k6, k7⟩ := okZ
  dsimp only at k1 k2 k3 k4 k5 k7
  rw [hlen] at k7
  have bl0 : 1 ≤ len := by omega
  have bl1 : len ≤ 1024 := by omega
  have okZ : Sm.ok ⟨bits', hashes, salt, Z⟩ := by rw [← hZ]; exact hy
  have HY := Lib.hid hy; have HZ := Lib.hid hZ; have HL := Lib.hid hlen; have HZr := Lib.hid hZr; have OKZ := Lib.hid okZ; have K7 := Lib.hid k7
  clear hy hZ hlen hZr okZ k1 k2 k3 k6 k7
  go_wp2_with fail
  refine (New_ok bits' hashes salt Z _ HY.out HZ.out).mono ?_; rintro e w2 ⟨a1, c1, rfl, r1, hb⟩
  replace hB := bel_stp hB hb
  clear hb
  rw [HL.out] at r1 ⊢
  have d1 := Quad.new w2 24 (.int .i64 bits') (.int .i64 hashes) (.int .i64 salt) (.slice a1 len c1)
  have c0_d1 := d1.cell0; have c1_d1 := d1.cell1; have c2_d1 := d1.cell2; have c3_d1 := d1.cell3; have lt_d1 := d1.lt
  by_cases hn : Sm.right n
  case neg =>
    have r1' := (r1.alloc (.cells #[.int .i64 bits', .int .i64 hashes, .int .i64 salt, .slice a1 len c1] 24))
    go_wp2_with fail
    refine (Put_bad ⟨bits', hashes, salt, Z⟩ _ n _ (by exact r1') (fun h => hn h.2)).mono ?_; rintro e w3 ⟨rfl, hb⟩
    clear c0_d1 c1_d1 c2_d1 c3_d1 lt_d1
    replace hB := bel_stp (bel_alloc hB _) hb
    replace r1 := (r1.alloc _).stp hb
    replace d1 := d1.stp hb
    clear hb
    clear r1'
    have d2 := Quad.new w3 24 (.int .i64 0) (.int .i64 0) (.int .i64 0) (.slice none 0 0)
    have c0_d1 := d1.cell0; have c1_d1 := d1.cell1; have c2_d1 := d1.cell2; have c3_d1 := d1.cell3; have lt_d1 := d1.lt
    have c0_d2 := d2.cell0; have c1_d2 := d2.cell1; have c2_d2 := d2.cell2; have c3_d2 := d2.cell3; have lt_d2 := d2.lt
    have hz : Sm.has ⟨bits', hashes, salt, Z⟩ n = false := Sm.has_zero _ n len HZr.out
    have r1' := (r1.alloc (.cells #[.int .i64 0, .int .i64 0, .int .i64 0, .slice none 0 0] 24))
    clear hn
    go_wp2_with fail
    refine (Has_is ⟨bits', hashes, salt, Z⟩ _ n false _ (by exact r1') hz).mono ?_; rintro e w4 ⟨rfl, hb⟩
    clear c0_d1 c1_d1 c2_d1 c3_d1 lt_d1 c0_d2 c1_d2 c2_d2 c3_d2 lt_d2
    replace hB := bel_stp (bel_alloc hB _) hb
    replace r1 := (r1.alloc _).stp hb
    replace d1 := (d1.alloc _).stp hb
    replace d2 := d2.stp hb
    clear hb
    clear r1' hz
    go_wp2_with fail
    go_ret
    exact ⟨rfl, hB⟩
  have HN := Lib.hid hn
  clear hn
  obtain ⟨X, hX⟩ : ∃ X, Sm.puts Z (Sm.places bits' hashes salt n) = X := ⟨_, rfl⟩
  have hXl : X.length = len := by rw [← hX, Sm.puts_length, HL.out]
  have hZb : Sm.bytes Z := by rw [HZr.out]; exact Sm.zero_bytes _
  have hXb : Sm.bytes X := by rw [← hX]; exact Sm.puts_bytes hZb _
  have hin := Sm.places_in ⟨bits', hashes, salt, Z⟩ n OKZ.out
  dsimp only at hin
  have hc1 : Sm.count X ≤ hashes.toNat := by
    have := Sm.count_puts Z (Sm.places bits' hashes salt n) hZb hin
    rw [hX, Sm.places_len, HZr.out, Sm.count_zero] at this
    omega
  have hc2 : 1 ≤ Sm.count X := by
    obtain ⟨q, hq⟩ := Sm.places_ne ⟨bits', hashes, salt, Z⟩ n OKZ.out
    have h1 := hin q hq
    refine Sm.count_pos X q hXb (by rw [hXl, ← HL.out]; exact h1) ?_
    rw [← hX, Sm.bit_puts Z _ q hin, decide_eq_true (show q ∈ Sm.places bits' hashes salt n from hq)]; simp
  have HX := Lib.hid hX; have HXl := Lib.hid hXl; have HXb := Lib.hid hXb; have HC1 := Lib.hid hc1; have HC2 := Lib.hid hc2
  clear hX hXl hZb hXb hin hc1 hc2
  have r1' := (r1.alloc (.cells #[.int .i64 bits', .int .i64 hashes, .int .i64 salt, .slice a1 len c1] 24))
  go_wp2_with fail
  refine (Put_ok ⟨bits', hashes, salt, Z⟩ _ n X _ (by exact r1') ⟨OKZ.out, HN.out⟩ HX.out).mono ?_; rintro e w3 ⟨a2, c2, rfl, r2, hb⟩
  clear c0_d1 c1_d1 c2_d1 c3_d1 lt_d1
  replace hB := bel_stp (bel_alloc hB _) hb
  replace r1 := (r1.alloc _).stp hb
  replace d1 := d1.stp hb
  clear hb
  clear r1'
  rw [HXl.out] at r2 ⊢
  have d2 := Quad.new w3 24 (.int .i64 bits') (.int .i64 hashes) (.int .i64 salt) (.slice a2 len c2)
  obtain ⟨V0, hV0⟩ : ∃ V0, w3.alloc (.cells #[.int .i64 bits', .int .i64 hashes, .int .i64 salt, .slice a2 len c2] 24) = V0 := ⟨_, rfl⟩
  replace hB := bel_alloc hB (.cells #[.int .i64 bits', .int .i64 hashes, .int .i64 salt, .slice a2 len c2] 24)
  replace r1 := r1.alloc (.cells #[.int .i64 bits', .int .i64 hashes, .int .i64 salt, .slice a2 len c2] 24)
  replace d1 := d1.alloc (.cells #[.int .i64 bits', .int .i64 hashes, .int .i64 salt, .slice a2 len c2] 24)
  replace r2 := r2.alloc (.cells #[.int .i64 bits', .int .i64 hashes, .int .i64 salt, .slice a2 len c2] 24)
  rw [hV0] at hB r1 d1 r2 d2
  have HV0 := Lib.hid hV0
  have hXs : V0.heap.size = w3.heap.size + 1 := by rw [← hV0]; simp
  clear hV0
  have c0_d1 := d1.cell0; have c1_d1 := d1.cell1; have c2_d1 := d1.cell2; have c3_d1 := d1.cell3; have lt_d1 := d1.lt
  have c0_d2 := d2.cell0; have c1_d2 := d2.cell1; have c2_d2 := d2.cell2; have c3_d2 := d2.cell3; have lt_d2 := d2.lt
  rw [← HV0.out] at c0_d1 c1_d1 c2_d1 c3_d1 c0_d2 c1_d2 c2_d2 c3_d2
  rw [hXs] at lt_d1 lt_d2
  have HXs := Lib.hid hXs
  clear hXs
  go_wp2_with fail
  rw [HV0.out]
  rw [HV0.out] at c0_d1 c1_d1 c2_d1 c3_d1 c0_d2 c1_d2 c2_d2 c3_d2
  clear c0_d1 c1_d1 c2_d1 c3_d1 c0_d2 c1_d2 c2_d2 c3_d2
  have hXs := HXs.out
  have dX0 := (Quad.new' V0 24 (.int .i64 bits') (.int .i64 hashes) (.int .i64 salt) (.slice (some ⟨w3.heap.size + 1 + 1, 0, none⟩) 0 0) (w3.heap.size + 1) hXs.symm).alloc (.cells #[] 5)
  have oX0 := owns_empty' (V0.alloc (.cells #[.int .i64 bits', .int .i64 hashes, .int .i64 salt, .slice (some ⟨w3.heap.size + 1 + 1, 0, none⟩) 0 0] 24)) ((w3.heap.size + 1) + 1) 5 ((w3.heap.size + 1) + 1) (by simp [hXs]) (by simp [hXs])
  have hV00 : Below V0.heap.size V0 ((V0.alloc (.cells #[.int .i64 bits', .int .i64 hashes, .int .i64 salt, .slice (some ⟨w3.heap.size + 1 + 1, 0, none⟩) 0 0] 24)).alloc (.cells #[] 5)) := ((Below.refl V0.heap.size V0).alloc (Nat.le_refl _) _).alloc (by simp) _
  clear hXs
  go_loopw [13, 15, 16] (fun sv iv _ wr => ∃ (k : Nat) (aF : Option Addr) (cF : Nat), iv = .int .i64 k ∧ sv = .int .i64 (Sm.count (X.take k) : Nat) ∧ k ≤ len ∧ wr.ownsRow ((w3.heap.size + 1) + 1) 5 1 (.slice aF k cF) k ((List.replicate k (255 : Int)).map (Value.int .u8)) ∧ Quad wr (w3.heap.size + 1) 24 (.int .i64 bits') (.int .i64 hashes) (.int .i64 salt) (.slice aF k cF) ∧ Below V0.heap.size V0 wr) (fun _ iv _ _ => len - (intOf iv).toNat)
  case atStart => exact ⟨0, _, _, rfl, rfl, Nat.zero_le _, oX0, dX0, hV00⟩
  case round =>
    obtain ⟨k, aF, cF, rfl, rfl, hk, own, dX, hV⟩ := hrel
    clear oX0 dX0 hV00
    obtain ⟨wo, rfl⟩ : ∃ wo : World, wo = wr := ⟨_, rfl⟩
    have k0 : (0 : Int) ≤ (k : Int) := by omega
    have e1 : IntKind.i64.wrap ((k : Int) + 1) = (k : Int) + 1 := IntWalk.i64_in _ (by omega)
    have hcb := Sm.count_le X k (by rw [HXl.out]; exact hk)
    obtain ⟨c0, hc0⟩ : ∃ c0, Sm.count (X.take k) = c0 := ⟨_, rfl⟩
    rw [hc0] at hcb ⊢
    have HC0 := Lib.hid hc0
    clear hc0
    have hXs := HXs.out
    have hVs := hV.size
    have hdl := dX.lt
    have y2 := d2.stp hV
    by_cases hlt : k < len
    · have k1 : (k : Int) < (len : Int) := by omega
      have hlX : k < X.length := by rw [HXl.out]; exact hlt
      have HCs := Lib.hid (Sm.count_snoc X k hlX)
      have z3 := y2.cell3
      have x3 := dX.cell3
      go_wp2_with (first
        | (at_builtin; refine wpList_append_own _ rfl _ _ 22 rfl ((w3.heap.size + 1) + 1) 5 i8 (.int .u8 0) 1 1 Try.underlying22 hi8 hz80 hz81 hz82 rfl (by decide) _ _ _ rfl (own.alloc _) ⟨wo.heap.size, 0, none⟩ 1 1 [.int .u8 255] rfl rfl (cell_one_new _ _ _) (by simp [Value.oneCell']) (by unfold maxLen; omega) (by omega) (by simp; omega) ?_; intro v' w1' hown' hgrow _; have hb2 : Below ((w3.heap.size + 1) + 1) wo w1' := ((Below.refl ((w3.heap.size + 1) + 1) wo).alloc (by omega) _).grown hgrow (by simp; omega) (fun k e => own_above own (by exact e)); obtain ⟨g, cap, rfl, hg1, hg2⟩ := owns_at hown' (by omega); have dX2 := dX.kept hb2 (by omega); have u3 := dX2.cell3; have f3 := dX2.free 3; have y2' := y2.kept hb2 (by have := d2.lt; omega); have z3' := y2'.cell3)
        | fail)
      have dX5 := dX2.set3 (.slice (some ⟨g, 0, none⟩) (k + 1) cap)
      have own5 : (w1'.setCell ⟨(w3.heap.size + 1), 3, none⟩ (.slice (some ⟨g, 0, none⟩) (k + 1) cap)).ownsRow ((w3.heap.size + 1) + 1) 5 1 (.slice (some ⟨g, 0, none⟩) (k + 1) cap) (k + 1) ((List.replicate (k + 1) (255 : Int)).map (Value.int .u8)) := by
        have e : (List.replicate (k + 1) (255 : Int)).map (Value.int .u8) = (List.replicate k (255 : Int)).map (Value.int .u8) ++ [.int .u8 255] := by rw [List.replicate_succ', List.map_append]; rfl
        rw [e]
        exact ownsRow_setCell_other hown' (a := ⟨(w3.heap.size + 1), 3, none⟩) (by simp [Value.ownBlock]; omega) _
      have hV5 : Below V0.heap.size V0 (w1'.setCell ⟨(w3.heap.size + 1), 3, none⟩ (.slice (some ⟨g, 0, none⟩) (k + 1) cap)) := (hV.trans (hb2.mono (by omega))).setCell (by rw [hXs]; exact Nat.le_refl _) _
      obtain ⟨Wn, hWn⟩ : ∃ W, w1'.setCell ⟨(w3.heap.size + 1), 3, none⟩ (.slice (some ⟨g, 0, none⟩) (k + 1) cap) = W := ⟨_, rfl⟩
      rw [hWn] at dX5 own5 hV5 ⊢
      clear hWn u3 f3 z3 z3' x3 y2 y2' dX dX2 own hown' hV hb2 hgrow
      have y5 := d2.stp hV5
      have z3 := y5.cell3
      obtain ⟨b_y, o_y, ea, hc_y⟩ : ∃ b o, a2 = some ⟨b, o, none⟩ ∧ ∀ i, i < X.length → Wn.cell? ⟨b, o + i, none⟩ = some (.int .u8 (X[i]?.getD 0)) := by
        obtain ⟨_, _, e, _, _, _, _, h5⟩ := r2.stp hV5
        injection e with q1 _ q3
        subst q1 q3
        obtain ⟨b, o, e, _, hc⟩ := h5 (by intro h0; rw [h0] at hlX; simp at hlX)
        exact ⟨b, o, e, hc⟩
      replace hc_y := hc_y k hlX
      subst ea
      have hbx := Sm.byte_at X HXb.out k
      have hcs := HCs.out
      rw [HC0.out] at hcs
      obtain ⟨x, hx⟩ : ∃ x, X[k]?.getD 0 = x := ⟨_, rfl⟩
      rw [hx] at hc_y hbx hcs
      have HCS := Lib.hid hcs; have HBX := Lib.hid hbx
      have hd5 := dX5.lt
      clear hx hcs hbx
      go_loopw [13, 16] (fun sv jv wr => ∃ j : Nat, jv = .int .i64 j ∧ sv = .int .i64 (c0 + Sm.some1 x.toNat j : Nat) ∧ j ≤ 8 ∧ wr = Wn) (fun _ jv _ => 8 - (intOf jv).toNat)
      case atStart => exact ⟨0, rfl, by go_num, by omega, rfl⟩
      case round =>
        obtain ⟨j, rfl, rfl, hj, rfl⟩ := hrel
        have hs8 := Sm.some1_le x.toNat j
        by_cases hj8 : j < 8
        · have hsc := Sm.some1_succ x.toNat j
          have ea := and1_8 x j HBX.out hj8
          obtain ⟨y, hy⟩ : ∃ y, x.toNat / 2 ^ j % 2 = y := ⟨_, rfl⟩
          have hy2 : y < 2 := by rw [← hy]; exact Nat.mod_lt _ (by decide)
          rw [hy] at ea hsc
          obtain ⟨c1, hc1⟩ : ∃ c1, c0 + Sm.some1 x.toNat j = c1 := ⟨_, rfl⟩
          rw [hc1]
          have hc2 : c0 + Sm.some1 x.toNat (j + 1) = c1 + y := by rw [hsc]; omega
          have HC2' := Lib.hid hc2
          have e5 : IntKind.u64.wrap (j : Int) = j := by rw [IntKind.wrap_u64]; omega
          have e6 : IntKind.i64.wrap ((c1 : Int) + y) = ((c1 + y : Nat) : Int) := by rw [IntWalk.i64_in _ (by omega)]; omega
          have e7 : IntKind.i64.wrap (y : Int) = y := IntWalk.i64_in _ (by omega)
          have e8 : IntKind.i64.wrap ((j : Int) + 1) = (j : Int) + 1 := IntWalk.i64_in _ (by omega)
          have j0 : (0 : Int) ≤ (j : Int) := by omega
          clear hsc hy hc1 hc2
          go_wp2_with fail
          (try go_roundw)
          first
            | exact ⟨⟨j + 1, by go_num, by rw [HC2'.out]; simp, by omega, trivial⟩, by simp [intOf]; omega⟩
            | (case rel => exact ⟨j + 1, by go_num, by rw [HC2'.out]; simp, by omega, trivial⟩
               case measure => simp [intOf]; omega)
        · obtain rfl : j = 8 := by omega
          have HO5 := Lib.hid own5; have HD5 := Lib.hid dX5; have HV5 := Lib.hid hV5
          clear own5 dX5 hV5
          go_wp2_with fail
          exact ⟨⟨k + 1, _, cap, by go_num, by rw [HCS.out], by omega, HO5.out, HD5.out, HV5.out⟩, by simp [intOf]; omega⟩
    · obtain rfl : k = len := by omega
      have hcX : c0 = Sm.count X := by rw [← HC0.out, List.take_of_length_le (by rw [HXl.out]; exact Nat.le_refl _)]
      have hc1 := HC1.out; have hc2 := HC2.out
      rw [← hcX] at hc1 hc2
      have rF : Row .u8 wo (.slice aF k cF) (List.replicate k (255 : Int)) := by
        have h := owns_row (l := List.replicate k (255 : Int)) (by rw [List.length_replicate]; exact own) (fun x hx => by rw [List.eq_of_mem_replicate hx]; exact ⟨by decide, by decide⟩)
        exact h
      have y1 := d1.stp hV
      have r1w := r1.stp hV
      have hBw := bel_stp hB hV
      have g0 := y1.cell0; have g1 := y1.cell1; have g2 := y1.cell2; have g3 := y1.cell3
      have z3 := y2.cell3
      have m1 : (1 : Int) ≤ (c0 : Int) := by omega
      have m2 : (c0 : Int) ≤ hashes := by have := OKZ.out.2.2.2.1; dsimp only at this; omega
      have m3 : bits'.tdiv 8 = (k : Int) := by have := K7.out; have := OKZ.out.1; dsimp only at this; rw [Int.tdiv_eq_ediv_of_nonneg (by omega)]; omega
      have hz : Sm.has ⟨bits', hashes, salt, Z⟩ n = false := Sm.has_zero _ n k HZr.out
      have hf : Sm.has ⟨bits', hashes, salt, List.replicate k 255⟩ n = true := Sm.has_full _ n k (Sm.ok_with ⟨bits', hashes, salt, Z⟩ _ OKZ.out (by rw [List.length_replicate, HL.out])) HN.out rfl
      have Hz := Lib.hid hz; have Hf := Lib.hid hf
      clear hz hf own hcX hc1 hc2 hcb
      go_wp2_with fail
      refine (Has_is ⟨bits', hashes, salt, Z⟩ _ n false _ (by exact r1w) Hz.out).mono ?_; rintro e w7 ⟨rfl, hb7⟩
      have dX7 := dX.stp hb7
      have rF7 := rF.stp hb7
      have x0 := dX7.cell0; have x1 := dX7.cell1; have x2 := dX7.cell2; have x3 := dX7.cell3
      clear g0 g1 g2 g3 z3
      go_wp2_with fail
      refine (Has_is ⟨bits', hashes, salt, List.replicate k 255⟩ _ n true _ (by exact rF7) Hf.out).mono ?_; rintro e w8 ⟨rfl, hb8⟩
      go_wp2_with fail
      go_ret
      exact ⟨rfl, bel_stp (bel_stp hBw hb7) hb8⟩
end Go.Proofs.Ytpmkinnfbnfmbaa
