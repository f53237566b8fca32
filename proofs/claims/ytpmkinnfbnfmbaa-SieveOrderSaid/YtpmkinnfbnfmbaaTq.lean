/-
  The walk over SieveOrder.
-/
import Derived.Test.YtpmkinnfbnfmbaaTo
namespace Go.Proofs.Ytpmkinnfbnfmbaa
open Go.RowKit

set_option maxRecDepth 100000 in
set_option maxHeartbeats 4000000 in
theorem SieveOrder_any (vl : Value) (l : List Int) (bits' hashes salt : Int) (w : World) (h : Row .i64 w vl l) (_k1 : (Lit.int .i64 bits').wf = true) (_k2 : (Lit.int .i64 hashes).wf = true) (_k3 : (Lit.int .i64 salt).wf = true) :
    Calls Try.prog 7 #[vl, .int .i64 bits', .int .i64 hashes, .int .i64 salt] w fun e w' => e = .returned (.bool true) ∧ Below w.heap.size w w' := by
  obtain ⟨j0, gi, gz0, gz1, gz2⟩ := info_parts info_i64
  obtain ⟨a_l, c_l, rfl⟩ := h.shape l.length rfl
  have hB := Below.refl w.heap.size w
  have rl := h
  have hwf := h.wf
  have HWf := Lib.hid hwf
  clear h _k1 _k2 _k3 hwf
  go_enter Try.func7, Try.ntmps7
  go_wp2_with fail
  refine (live_true _).mono ?_; rintro e w1 ⟨rfl, hb⟩
  replace hB := bel_stp hB hb
  replace rl := rl.stp hb
  clear hb
  by_cases g_l : (30 : Int) < (l.length : Int)
  case pos =>
    go_wp2_with fail
    go_ret
    exact ⟨rfl, hB⟩
  obtain ⟨z, hz⟩ : ∃ z, Sm.fresh bits' hashes salt = z := ⟨_, rfl⟩
  obtain ⟨s, hs⟩ : ∃ s, Sm.ofS z l = s := ⟨_, rfl⟩
  obtain ⟨cc, hcc⟩ : ∃ cc, Sm.ofE z l = cc := ⟨_, rfl⟩
  have hzb : Sm.bytes z.b := by rw [← hz]; exact Sm.zero_bytes _
  have q1 := Sm.ofS_same z l.reverse l hzb (fun x => List.mem_reverse)
  have q2 := Sm.ofS_same z (l ++ l.reverse) l hzb (fun x => by simp)
  rw [hs, hcc] at q1 q2
  have HZ := Lib.hid hz; have HS := Lib.hid hs; have HC := Lib.hid hcc; have Q1 := Lib.hid q1; have Q2 := Lib.hid q2
  clear hz hs hcc hzb q1 q2
  have el : IntKind.i64.wrap ((l.length : Int) - 1) = (l.length : Int) - 1 := IntWalk.i64_in _ (by omega)
  go_wp2_with fail
  go_loopw [9, 10] (fun bv iv wr => ∃ j : Nat, j ≤ l.length ∧ iv = .int .i64 ((j : Int) - 1) ∧ wr.ownsRow w1.heap.size 3 1 bv (l.drop j).reverse.length ((l.drop j).reverse.map (Value.int .i64)) ∧ Below w1.heap.size w1 wr) (fun _ iv _ => (intOf iv + 1).toNat)
  case atStart => exact ⟨l.length, Nat.le_refl _, rfl, by rw [List.drop_length]; exact owns_empty w1 w1.heap.size 3 (Nat.le_refl _), (Below.refl _ _).alloc (Nat.le_refl _) _⟩
  case round =>
    obtain ⟨j, hj, rfl, own, hb⟩ := hrel
    have hbl := hb
    replace hB := bel_stp hB hb
    replace rl := rl.stp hb
    clear hb
    by_cases hj0 : 1 ≤ j
    case pos =>
      obtain ⟨m, rfl⟩ : ∃ m, j = m + 1 := ⟨j - 1, by omega⟩
      have em : ((m + 1 : Nat) : Int) - 1 = m := by omega
      rw [em]
      have hml : m < l.length := by omega
      obtain ⟨b_l, o_l, ea, hc_l⟩ : ∃ b o, a_l = some ⟨b, o, none⟩ ∧ ∀ i, i < l.length → wr.cell? ⟨b, o + i, none⟩ = some (.int .i64 (l[i]?.getD 0)) := by
        obtain ⟨_, _, e, _, _, _, _, h5⟩ := rl
        cases e
        obtain ⟨b, o, e, _, hc⟩ := h5 (by intro h0; rw [h0] at hml; simp at hml)
        exact ⟨b, o, e, hc⟩
      subst ea
      replace hc_l := hc_l m hml
      have hd : (l.drop m).reverse = (l.drop (m + 1)).reverse ++ [l[m]?.getD 0] := by
        rw [List.drop_eq_getElem_cons hml, List.reverse_cons, List.getElem?_eq_getElem hml]; rfl
      obtain ⟨x, hx⟩ : ∃ x, l[m]?.getD 0 = x := ⟨_, rfl⟩
      obtain ⟨R, hR⟩ : ∃ R, (l.drop (m + 1)).reverse = R := ⟨_, rfl⟩
      have hRl : R.length ≤ 1000 := by rw [← hR]; simp; omega
      rw [hx] at hc_l hd
      rw [hR] at own hd
      have HD := Lib.hid hd
      clear hd hx hR
      have k0 : (0 : Int) ≤ (m : Int) := by omega
      have k1 : (m : Int) < (l.length : Int) := by omega
      have e1 : IntKind.i64.wrap ((m : Int) - 1) = (m : Int) - 1 := IntWalk.i64_in _ (by omega)
      have hbs := hbl.size
      obtain ⟨aR, nR, cR, rfl⟩ := owns_slice own
      go_wp2_with (first
        | (at_builtin; refine wpList_append_own _ rfl _ _ 36 rfl w1.heap.size 3 j0 (.int .i64 0) 1 8 Try.underlying36 gi gz0 gz1 gz2 rfl (by decide) _ _ _ rfl (own.alloc _) ⟨wr.heap.size, 0, none⟩ 1 1 [.int .i64 x] rfl rfl (cell_one_new _ _ _) (by simp [Value.oneCell']) (by unfold maxLen; omega) (by omega) (by simp; omega) ?_; intro v' w1' hown' hgrow _)
        | fail)
      have hown2 : w1'.ownsRow w1.heap.size 3 1 v' (l.drop m).reverse.length ((l.drop m).reverse.map (Value.int .i64)) := by
        rw [HD.out, List.map_append, List.length_append]; exact hown'
      have hb2 : Below w1.heap.size w1 w1' := (hbl.alloc hbs _).grown hgrow (by simp; omega) (fun k e => own_above own (by exact e))
      have HO2 := Lib.hid hown2
      clear hown2 hown' own
      (try go_wp2_with fail)
      first
        | (go_roundw
           case rel => exact ⟨m, by omega, by go_num, HO2.out, hb2⟩
           case measure => simp [intOf])
        | exact ⟨⟨m, by omega, rfl, HO2.out, hb2⟩, by simp [intOf]⟩
    obtain rfl : j = 0 := by omega
    rw [List.drop_zero] at own
    have rb := Row.owned64 own (fun x hx => HWf.out x (List.mem_reverse.1 hx))
    obtain ⟨a_b, c_b, rfl⟩ := rb.shape l.length (by simp)
    clear own hj0 hbl
    go_wp2_with fail
    refine (Of_all _ l bits' hashes salt s cc _ rl (by omega) (by rw [HZ.out]; exact HS.out) (by rw [HZ.out]; exact HC.out)).mono ?_; rintro e w2 ⟨a1, c1, rfl, r1, hb⟩
    replace hB := bel_stp hB hb
    replace rl := rl.stp hb
    replace rb := rb.stp hb
    clear hb
    have d1 := Quad.new w2 24 (.int .i64 s.bits) (.int .i64 s.hashes) (.int .i64 s.salt) (.slice a1 s.b.length c1)
    go_wp2_with fail
    refine (Of_all _ l.reverse bits' hashes salt s cc _ (rb.alloc _) (by simp; omega) (by rw [HZ.out]; exact Q1.out.1) (by rw [HZ.out]; exact Q1.out.2)).mono ?_; rintro e w3 ⟨a2, c2, rfl, r2, hb⟩
    replace hB := bel_stp (bel_alloc hB _) hb
    replace rl := (rl.alloc _).stp hb
    replace rb := (rb.alloc _).stp hb
    replace r1 := (r1.alloc _).stp hb
    replace d1 := d1.stp hb
    clear hb
    have d2 := Quad.new w3 24 (.int .i64 s.bits) (.int .i64 s.hashes) (.int .i64 s.salt) (.slice a2 s.b.length c2)
    obtain ⟨V, hV⟩ : ∃ V, w3.alloc (.cells #[.int .i64 s.bits, .int .i64 s.hashes, .int .i64 s.salt, .slice a2 s.b.length c2] 24) = V := ⟨_, rfl⟩
    replace hB := bel_alloc hB (.cells #[.int .i64 s.bits, .int .i64 s.hashes, .int .i64 s.salt, .slice a2 s.b.length c2] 24)
    replace rl := rl.alloc (.cells #[.int .i64 s.bits, .int .i64 s.hashes, .int .i64 s.salt, .slice a2 s.b.length c2] 24)
    replace rb := rb.alloc (.cells #[.int .i64 s.bits, .int .i64 s.hashes, .int .i64 s.salt, .slice a2 s.b.length c2] 24)
    replace r1 := r1.alloc (.cells #[.int .i64 s.bits, .int .i64 s.hashes, .int .i64 s.salt, .slice a2 s.b.length c2] 24)
    replace d1 := d1.alloc (.cells #[.int .i64 s.bits, .int .i64 s.hashes, .int .i64 s.salt, .slice a2 s.b.length c2] 24)
    replace r2 := r2.alloc (.cells #[.int .i64 s.bits, .int .i64 s.hashes, .int .i64 s.salt, .slice a2 s.b.length c2] 24)
    rw [hV] at hB rl rb r1 d1 r2 d2
    have HV := Lib.hid hV
    clear hV
    have hw0 : Below V.heap.size V V := Below.refl _ _
    have o0 : (w3.alloc (.cells #[.int .i64 s.bits, .int .i64 s.hashes, .int .i64 s.salt, .slice a2 s.b.length c2] 24) |>.alloc (.cells #[] 3)).ownsRow V.heap.size 3 1 (.slice (some ⟨w3.heap.size + 1, 0, none⟩) 0 0) 0 [] := by rw [HV.out]; have e : w3.heap.size + 1 = V.heap.size := (by have h := congrArg (fun W : World => W.heap.size) HV.out; simpa using h); rw [e]; exact owns_empty V V.heap.size 3 (Nat.le_refl _)
    have b0 : Below V.heap.size V (w3.alloc (.cells #[.int .i64 s.bits, .int .i64 s.hashes, .int .i64 s.salt, .slice a2 s.b.length c2] 24) |>.alloc (.cells #[] 3)) := by rw [HV.out]; exact hw0.alloc (Nat.le_refl _) _
    go_wp2_with (first
        | (at_builtin; (refine wpList_plain rfl fun Kx hKx => ?_; refine wp_append_ints (w0 := V) (.tmp 54) (.tmp 55) 36 rfl 3 j0 (.int .i64 0) Try.underlying36 gi gz0 gz1 gz2 rfl b0 _ [] rfl o0 _ l rl rfl (by first | omega | (simp; done) | (simp; omega)) ?_; intro va wa oa ba; refine hKx _ _ ?_))
        | (at_builtin; (refine wpList_plain rfl fun Kx hKx => ?_; refine wp_append_ints (w0 := V) (.tmp 56) (.tmp 57) 36 rfl 3 j0 (.int .i64 0) Try.underlying36 gi gz0 gz1 gz2 rfl ba _ l rfl (by rw [List.nil_append] at oa; exact oa) _ l.reverse rb rfl (by first | omega | (simp; done) | (simp; omega)) ?_; intro vb wb ob bb; refine hKx _ _ ?_))
        | fail)
    clear o0 b0
    have hb := bb
    replace hB := bel_stp hB hb
    replace rl := rl.stp hb
    replace rb := rb.stp hb
    replace r1 := r1.stp hb
    replace d1 := d1.stp hb
    replace r2 := r2.stp hb
    replace d2 := d2.stp hb
    clear hb
    have ra := Row.owned64 ob (fun x hx => HWf.out x (by simpa using hx))
    obtain ⟨a_a, c_a, rfl⟩ := ra.shape (l ++ l.reverse).length rfl
    clear ob bb
    refine (Of_all _ (l ++ l.reverse) bits' hashes salt s cc _ ra (by simp; omega) (by rw [HZ.out]; exact Q2.out.1) (by rw [HZ.out]; exact Q2.out.2)).mono ?_; rintro e w4 ⟨a3, c3, rfl, r3, hb⟩
    replace hB := bel_stp hB hb
    replace rl := rl.stp hb
    replace rb := rb.stp hb
    replace r1 := r1.stp hb
    replace d1 := d1.stp hb
    replace r2 := r2.stp hb
    replace d2 := d2.stp hb
    replace ra := ra.stp hb
    clear hb
    have d3 := Quad.new w4 24 (.int .i64 s.bits) (.int .i64 s.hashes) (.int .i64 s.salt) (.slice a3 s.b.length c3)
    have c0_d1 := d1.cell0; have c1_d1 := d1.cell1; have c2_d1 := d1.cell2; have c3_d1 := d1.cell3; have lt_d1 := d1.lt
    have c0_d2 := d2.cell0; have c1_d2 := d2.cell1; have c2_d2 := d2.cell2; have c3_d2 := d2.cell3; have lt_d2 := d2.lt
    go_wp2_with fail
    refine (SSame_yes s.bits s.hashes s.salt _ _ s.b _ (r1.alloc _) (r2.alloc _)).mono ?_; rintro e w5 ⟨rfl, hb⟩
    clear c0_d1 c1_d1 c2_d1 c3_d1 lt_d1 c0_d2 c1_d2 c2_d2 c3_d2 lt_d2
    replace hB := bel_stp (bel_alloc hB _) hb
    replace rl := (rl.alloc _).stp hb
    replace rb := (rb.alloc _).stp hb
    replace r1 := (r1.alloc _).stp hb
    replace d1 := (d1.alloc _).stp hb
    replace r2 := (r2.alloc _).stp hb
    replace d2 := (d2.alloc _).stp hb
    replace ra := (ra.alloc _).stp hb
    replace r3 := (r3.alloc _).stp hb
    replace d3 := d3.stp hb
    clear hb
    have c0_d1 := d1.cell0; have c1_d1 := d1.cell1; have c2_d1 := d1.cell2; have c3_d1 := d1.cell3; have lt_d1 := d1.lt
    have c0_d3 := d3.cell0; have c1_d3 := d3.cell1; have c2_d3 := d3.cell2; have c3_d3 := d3.cell3; have lt_d3 := d3.lt
    go_wp2_with fail
    refine (SSame_yes s.bits s.hashes s.salt _ _ s.b _ r1 r3).mono ?_; rintro e w6 ⟨rfl, hb⟩
    clear c0_d1 c1_d1 c2_d1 c3_d1 lt_d1 c0_d3 c1_d3 c2_d3 c3_d3 lt_d3
    replace hB := bel_stp hB hb
    replace rl := rl.stp hb
    replace rb := rb.stp hb
    replace r1 := r1.stp hb
    replace d1 := d1.stp hb
    replace r2 := r2.stp hb
    replace d2 := d2.stp hb
    replace ra := ra.stp hb
    replace r3 := r3.stp hb
    replace d3 := d3.stp hb
    clear hb
    go_wp2_with fail
    go_ret
    exact ⟨rfl, hB⟩
end Go.Proofs.Ytpmkinnfbnfmbaa
