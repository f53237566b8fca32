/-
  The walk over SieveJoins.
-/
import Derived.Test.YtpmkinnfbnfmbaaTo
namespace Go.Proofs.Ytpmkinnfbnfmbaa
open Go.RowKit

theorem mix_set (C A : List Int) (k : Nat) (hl : C.length = A.length) (h : k < C.length) : (C.take k ++ A.drop k).set k (C[k]?.getD 0) = C.take (k + 1) ++ A.drop (k + 1) := by
  rw [List.set_append, if_neg (by simp; omega), List.length_take, Nat.min_eq_left (Nat.le_of_lt h), Nat.sub_self, List.take_succ_eq_append_getElem h, List.drop_eq_getElem_cons (show k < A.length by omega), List.getElem?_eq_getElem h, List.set_cons_zero, List.append_assoc]
  rfl
theorem mix_at (C A : List Int) (k : Nat) (hl : C.length = A.length) (h : k < C.length) : (C.take k ++ A.drop k)[k]?.getD 0 = A[k]?.getD 0 := by
  rw [List.getElem?_append_right (by simp; omega)]
  simp [Nat.min_eq_left (Nat.le_of_lt h)]
theorem Sm.join_at (b : List Int) (x y : List Nat) (hb : Sm.bytes b) (hx : ∀ q ∈ x, q / 8 < b.length) (hy : ∀ q ∈ y, q / 8 < b.length) (i : Nat) (hi : i < b.length) : (Sm.puts b (x ++ y))[i]?.getD 0 = Sm.bor ((Sm.puts b x)[i]?.getD 0) ((Sm.puts b y)[i]?.getD 0) := by
  rw [← Sm.puts_join b x y hb hx hy, List.getElem?_zipWith, List.getElem?_eq_getElem (by rw [Sm.puts_length]; exact hi), List.getElem?_eq_getElem (by rw [Sm.puts_length]; exact hi)]
  rfl

set_option maxRecDepth 100000 in
set_option maxHeartbeats 4000000 in
theorem SieveJoins_any (vl : Value) (l : List Int) (vm : Value) (m : List Int) (bits' hashes salt : Int) (w : World) (hl0 : Row .i64 w vl l) (hm0 : Row .i64 w vm m) (_k1 : (Lit.int .i64 bits').wf = true) (_k2 : (Lit.int .i64 hashes).wf = true) (_k3 : (Lit.int .i64 salt).wf = true) :
    Calls Try.prog 8 #[vl, vm, .int .i64 bits', .int .i64 hashes, .int .i64 salt] w fun e w' => e = .returned (.bool true) ∧ Below w.heap.size w w' := by
  obtain ⟨j0, gi, gz0, gz1, gz2⟩ := info_parts info_i64
  obtain ⟨i8, hi8, hz80, hz81, hz82⟩ := info_parts info_u8
  have hB := Below.refl w.heap.size w
  obtain ⟨a_l, c_l, rfl⟩ := hl0.shape l.length rfl
  obtain ⟨a_m, c_m, rfl⟩ := hm0.shape m.length rfl
  have hwl := hl0.wf; have hwm := hm0.wf
  have HWl := Lib.hid hwl; have HWm := Lib.hid hwm
  have rl := hl0; have rm := hm0
  clear hl0 hm0 hwl hwm _k1 _k2 _k3
  go_enter Try.func8, Try.ntmps8
  go_wp2_with fail
  refine (live_true _).mono ?_; rintro e w1 ⟨rfl, hb⟩
  replace hB := bel_stp hB hb
  replace rl := rl.stp hb
  replace rm := rm.stp hb
  clear hb
  by_cases g_l : (30 : Int) < (l.length : Int)
  case pos =>
    go_wp2_with fail
    go_ret
    exact ⟨rfl, hB⟩
  by_cases g_m : (30 : Int) < (m.length : Int)
  case pos =>
    go_wp2_with fail
    go_ret
    exact ⟨rfl, hB⟩
  obtain ⟨z, hz⟩ : ∃ z, Sm.fresh bits' hashes salt = z := ⟨_, rfl⟩
  have hzb : Sm.bytes z.b := by rw [← hz]; exact Sm.zero_bytes _
  obtain ⟨s1, hs1⟩ : ∃ s, Sm.ofS z l = s := ⟨_, rfl⟩
  obtain ⟨e1, he1⟩ : ∃ s, Sm.ofE z l = s := ⟨_, rfl⟩
  have S1 := Lib.hid hs1; have E1 := Lib.hid he1
  clear hs1 he1
  obtain ⟨s2, hs2⟩ : ∃ s, Sm.ofS z m = s := ⟨_, rfl⟩
  obtain ⟨e2, he2⟩ : ∃ s, Sm.ofE z m = s := ⟨_, rfl⟩
  have S2 := Lib.hid hs2; have E2 := Lib.hid he2
  clear hs2 he2
  obtain ⟨s3, hs3⟩ : ∃ s, Sm.ofS z (l ++ m) = s := ⟨_, rfl⟩
  obtain ⟨e3, he3⟩ : ∃ s, Sm.ofE z (l ++ m) = s := ⟨_, rfl⟩
  have S3 := Lib.hid hs3; have E3 := Lib.hid he3
  clear hs3 he3
  have HZ := Lib.hid hz; have HZb := Lib.hid hzb
  clear hz hzb
  go_wp2_with fail
  refine (Of_all _ l bits' hashes salt s1 e1 _ rl (by omega) (by rw [HZ.out]; exact S1.out) (by rw [HZ.out]; exact E1.out)).mono ?_; rintro e w2 ⟨a1, c1, rfl, r1, hb⟩
  replace hB := bel_stp hB hb
  replace rl := rl.stp hb
  replace rm := rm.stp hb
  clear hb
  have d1 := Quad.new w2 24 (.int .i64 s1.bits) (.int .i64 s1.hashes) (.int .i64 s1.salt) (.slice a1 s1.b.length c1)
  go_wp2_with fail
  refine (Of_all _ m bits' hashes salt s2 e2 _ (rm.alloc _) (by omega) (by rw [HZ.out]; exact S2.out) (by rw [HZ.out]; exact E2.out)).mono ?_; rintro e w3 ⟨a2, c2, rfl, r2, hb⟩
  replace hB := bel_stp (bel_alloc hB _) hb
  replace rl := (rl.alloc _).stp hb
  replace rm := (rm.alloc _).stp hb
  replace r1 := (r1.alloc _).stp hb
  replace d1 := d1.stp hb
  clear hb
  have d2 := Quad.new w3 24 (.int .i64 s2.bits) (.int .i64 s2.hashes) (.int .i64 s2.salt) (.slice a2 s2.b.length c2)
  obtain ⟨V, hV⟩ : ∃ V, w3.alloc (.cells #[.int .i64 s2.bits, .int .i64 s2.hashes, .int .i64 s2.salt, .slice a2 s2.b.length c2] 24) = V := ⟨_, rfl⟩
  replace hB := bel_alloc hB (.cells #[.int .i64 s2.bits, .int .i64 s2.hashes, .int .i64 s2.salt, .slice a2 s2.b.length c2] 24)
  replace rl := rl.alloc (.cells #[.int .i64 s2.bits, .int .i64 s2.hashes, .int .i64 s2.salt, .slice a2 s2.b.length c2] 24)
  replace rm := rm.alloc (.cells #[.int .i64 s2.bits, .int .i64 s2.hashes, .int .i64 s2.salt, .slice a2 s2.b.length c2] 24)
  replace r1 := r1.alloc (.cells #[.int .i64 s2.bits, .int .i64 s2.hashes, .int .i64 s2.salt, .slice a2 s2.b.length c2] 24)
  replace d1 := d1.alloc (.cells #[.int .i64 s2.bits, .int .i64 s2.hashes, .int .i64 s2.salt, .slice a2 s2.b.length c2] 24)
  replace r2 := r2.alloc (.cells #[.int .i64 s2.bits, .int .i64 s2.hashes, .int .i64 s2.salt, .slice a2 s2.b.length c2] 24)
  rw [hV] at hB rl rm r1 d1 r2 d2
  have HV := Lib.hid hV
  clear hV
  have hw0 : Below V.heap.size V V := Below.refl _ _
  have o0 : (w3.alloc (.cells #[.int .i64 s2.bits, .int .i64 s2.hashes, .int .i64 s2.salt, .slice a2 s2.b.length c2] 24) |>.alloc (.cells #[] 3)).ownsRow V.heap.size 3 1 (.slice (some ⟨w3.heap.size + 1, 0, none⟩) 0 0) 0 [] := by rw [HV.out]; have e : w3.heap.size + 1 = V.heap.size := (by have h := congrArg (fun W : World => W.heap.size) HV.out; simpa using h); rw [e]; exact owns_empty V V.heap.size 3 (Nat.le_refl _)
  have b0 : Below V.heap.size V (w3.alloc (.cells #[.int .i64 s2.bits, .int .i64 s2.hashes, .int .i64 s2.salt, .slice a2 s2.b.length c2] 24) |>.alloc (.cells #[] 3)) := by rw [HV.out]; exact hw0.alloc (Nat.le_refl _) _
  go_wp2_with (first
      | (at_builtin; (refine wpList_plain rfl fun Kx hKx => ?_; refine wp_append_ints (w0 := V) (.tmp 46) (.tmp 47) 36 rfl 3 j0 (.int .i64 0) Try.underlying36 gi gz0 gz1 gz2 rfl b0 _ [] rfl o0 _ l rl rfl (by first | omega | (simp; done) | (simp; omega)) ?_; intro va wa oa ba; refine hKx _ _ ?_))
      | (at_builtin; (refine wpList_plain rfl fun Kx hKx => ?_; refine wp_append_ints (w0 := V) (.tmp 48) (.tmp 49) 36 rfl 3 j0 (.int .i64 0) Try.underlying36 gi gz0 gz1 gz2 rfl ba _ l rfl (by rw [List.nil_append] at oa; exact oa) _ m rm rfl (by first | omega | (simp; done) | (simp; omega)) ?_; intro vb wb ob bb; refine hKx _ _ ?_))
      | fail)
  clear o0 b0
  have hb := bb
  replace hB := bel_stp hB hb
  replace rl := rl.stp hb
  replace rm := rm.stp hb
  replace r1 := r1.stp hb
  replace d1 := d1.stp hb
  replace r2 := r2.stp hb
  replace d2 := d2.stp hb
  clear hb
  have ra := Row.owned64 ob (fun x hx => by rcases List.mem_append.1 hx with h | h; exact HWl.out x h; exact HWm.out x h)
  obtain ⟨a_a, c_a, rfl⟩ := ra.shape (l ++ m).length rfl
  clear ob bb
  refine (Of_all _ (l ++ m) bits' hashes salt s3 e3 _ ra (by simp; omega) (by rw [HZ.out]; exact S3.out) (by rw [HZ.out]; exact E3.out)).mono ?_; rintro e w4 ⟨a3, c3, rfl, r3, hb⟩
  replace hB := bel_stp hB hb
  replace rl := rl.stp hb
  replace rm := rm.stp hb
  replace r1 := r1.stp hb
  replace d1 := d1.stp hb
  replace r2 := r2.stp hb
  replace d2 := d2.stp hb
  replace ra := ra.stp hb
  clear hb
  have d3 := Quad.new w4 24 (.int .i64 s3.bits) (.int .i64 s3.hashes) (.int .i64 s3.salt) (.slice a3 s3.b.length c3)
  have hall : Sm.allRight (l ++ m) ↔ Sm.allRight l ∧ Sm.allRight m := ⟨fun h => ⟨fun x hx => h x (List.mem_append_left _ hx), fun x hx => h x (List.mem_append_right _ hx)⟩, fun h x hx => by rcases List.mem_append.1 hx with a | a; exact h.1 x a; exact h.2 x a⟩
  by_cases h1 : Sm.ok z ∧ Sm.allRight l
  case neg =>
    have q1 : e1 = 1 := by rw [← E1.out]; exact if_neg h1
    have q3 : e3 = 1 := by rw [← E3.out]; exact if_neg (fun h => h1 ⟨h.1, (hall.1 h.2).1⟩)
    subst q1 q3
    clear h1 hall
    go_wp2_with fail
    go_ret
    exact ⟨rfl, (bel_alloc hB _)⟩
  have q1 : e1 = 0 := by rw [← E1.out]; exact if_pos h1
  subst q1
  by_cases h2 : Sm.ok z ∧ Sm.allRight m
  case neg =>
    have q2 : e2 = 1 := by rw [← E2.out]; exact if_neg h2
    have q3 : e3 = 1 := by rw [← E3.out]; exact if_neg (fun h => h2 ⟨h.1, (hall.1 h.2).2⟩)
    subst q2 q3
    clear h1 h2 hall
    go_wp2_with fail
    go_ret
    exact ⟨rfl, (bel_alloc hB _)⟩
  have h3 : Sm.ok z ∧ Sm.allRight (l ++ m) := ⟨h1.1, hall.2 ⟨h1.2, h2.2⟩⟩
  have q2 : e2 = 0 := by rw [← E2.out]; exact if_pos h2
  have q3 : e3 = 0 := by rw [← E3.out]; exact if_pos h3
  subst q2 q3
  obtain ⟨len, hlen⟩ : ∃ len, z.b.length = len := ⟨_, rfl⟩
  obtain ⟨PA, hPA⟩ : ∃ PA, Sm.puts z.b (Sm.allPlaces z l) = PA := ⟨_, rfl⟩
  obtain ⟨PB, hPB⟩ : ∃ PA, Sm.puts z.b (Sm.allPlaces z m) = PA := ⟨_, rfl⟩
  obtain ⟨PC, hPC⟩ : ∃ PA, Sm.puts z.b (Sm.allPlaces z (l ++ m)) = PA := ⟨_, rfl⟩
  have lA : PA.length = len := by rw [← hPA, Sm.puts_length, hlen]
  have lB : PB.length = len := by rw [← hPB, Sm.puts_length, hlen]
  have lC : PC.length = len := by rw [← hPC, Sm.puts_length, hlen]
  have yA : Sm.bytes PA := by rw [← hPA]; exact Sm.puts_bytes HZb.out _
  have yB : Sm.bytes PB := by rw [← hPB]; exact Sm.puts_bytes HZb.out _
  have yC : Sm.bytes PC := by rw [← hPC]; exact Sm.puts_bytes HZb.out _
  have hjoin : ∀ i, i < len → PC[i]?.getD 0 = Sm.bor (PA[i]?.getD 0) (PB[i]?.getD 0) := by
    intro i hi
    have := Sm.join_at z.b (Sm.allPlaces z l) (Sm.allPlaces z m) HZb.out (Sm.allPlaces_in z l h1.1) (Sm.allPlaces_in z m h1.1) i (by omega)
    rw [← hPA, ← hPB, ← hPC, show Sm.allPlaces z (l ++ m) = Sm.allPlaces z l ++ Sm.allPlaces z m from List.flatMap_append]; exact this
  have t1 : s1 = ⟨z.bits, z.hashes, z.salt, PA⟩ := by rw [← S1.out, ← hPA]; exact if_pos h1
  have t2 : s2 = ⟨z.bits, z.hashes, z.salt, PB⟩ := by rw [← S2.out, ← hPB]; exact if_pos h2
  have t3 : s3 = ⟨z.bits, z.hashes, z.salt, PC⟩ := by rw [← S3.out, ← hPC]; exact if_pos h3
  have bl1 : 1 ≤ len ∧ len ≤ 1024 := by obtain ⟨⟨k1, k2, k3, k4, k5, k6, k7⟩, -⟩ := h1; omega
  obtain ⟨bl0, bl1⟩ := bl1
  subst t1 t2 t3
  have LA := Lib.hid lA; have LB := Lib.hid lB; have LC := Lib.hid lC; have YA := Lib.hid yA; have YB := Lib.hid yB; have YC := Lib.hid yC; have HJ := Lib.hid hjoin
  clear h1 h2 h3 hall hPA hPB hPC hlen lA lB lC yA yB yC hjoin S1 S2 S3 E1 E2 E3
  dsimp only at d1 d2 d3 r1 r2 r3 ⊢
  rw [LA.out] at d1 r1 ⊢
  rw [LB.out] at d2 r2 ⊢
  rw [LC.out] at d3 r3 ⊢
  clear rl rm ra
  obtain ⟨V0, hV0⟩ : ∃ V0, w4.alloc (.cells #[.int .i64 z.bits, .int .i64 z.hashes, .int .i64 z.salt, .slice a3 len c3] 24) = V0 := ⟨_, rfl⟩
  replace hB := bel_alloc hB (.cells #[.int .i64 z.bits, .int .i64 z.hashes, .int .i64 z.salt, .slice a3 len c3] 24)
  replace r1 := r1.alloc (.cells #[.int .i64 z.bits, .int .i64 z.hashes, .int .i64 z.salt, .slice a3 len c3] 24)
  replace d1 := d1.alloc (.cells #[.int .i64 z.bits, .int .i64 z.hashes, .int .i64 z.salt, .slice a3 len c3] 24)
  replace r2 := r2.alloc (.cells #[.int .i64 z.bits, .int .i64 z.hashes, .int .i64 z.salt, .slice a3 len c3] 24)
  replace d2 := d2.alloc (.cells #[.int .i64 z.bits, .int .i64 z.hashes, .int .i64 z.salt, .slice a3 len c3] 24)
  replace r3 := r3.alloc (.cells #[.int .i64 z.bits, .int .i64 z.hashes, .int .i64 z.salt, .slice a3 len c3] 24)
  rw [hV0] at hB r1 d1 r2 d2 r3 d3
  have HV0 := Lib.hid hV0
  have hXs : V0.heap.size = w4.heap.size + 1 := by rw [← hV0]; simp
  clear hV0
  have c0_d1 := d1.cell0; have c1_d1 := d1.cell1; have c2_d1 := d1.cell2; have c3_d1 := d1.cell3; have lt_d1 := d1.lt
  have c0_d2 := d2.cell0; have c1_d2 := d2.cell1; have c2_d2 := d2.cell2; have c3_d2 := d2.cell3; have lt_d2 := d2.lt
  have dX := Quad.new' V0 24 (.int .i64 z.bits) (.int .i64 z.hashes) (.int .i64 z.salt) (.slice a1 len c1) (w4.heap.size + 1) hXs.symm
  have bX := (Below.refl V0.heap.size V0).alloc (Nat.le_refl _) (.cells #[.int .i64 z.bits, .int .i64 z.hashes, .int .i64 z.salt, .slice a1 len c1] 24)
  have dXa := dX.alloc (.cells #[] 5)
  have bXa := bX.alloc bX.size (.cells #[] 5)
  have oX := owns_empty' (V0.alloc (.cells #[.int .i64 z.bits, .int .i64 z.hashes, .int .i64 z.salt, .slice a1 len c1] 24)) (w4.heap.size + 1 + 1) 5 (w4.heap.size + 1 + 1) (by simp [hXs]) (by simp [hXs])
  have rXa := (r1.alloc (.cells #[.int .i64 z.bits, .int .i64 z.hashes, .int .i64 z.salt, .slice a1 len c1] 24)).alloc (.cells #[] 5)
  rw [← HV0.out] at oX rXa
  have oX' := oX; have rXa' := rXa
  clear oX rXa
  have HXs := Lib.hid hXs
  rw [← HV0.out] at c0_d1 c1_d1 c2_d1 c3_d1 c0_d2 c1_d2 c2_d2 c3_d2
  rw [hXs] at lt_d1 lt_d2
  clear hXs
  go_wp2_with (first
    | (at_builtin; refine wpList_append_row rfl _ _ 22 rfl (w4.heap.size + 1 + 1) 5 i8 (.int .u8 0) 1 Try.underlying22 hi8 hz80 hz81 hz82 rfl _ 0 [] rfl oX' .u8 _ PA (by exact rXa') rfl (by rw [LA.out]; unfold maxLen; omega) (by rw [LA.out]; omega) (by simp) ?_; intro v4 w4' own4 hb4; rw [Nat.zero_add, List.nil_append, LA.out] at own4; obtain ⟨g, cap, rfl, hg1, hg2⟩ := owns_at own4 (by omega); rw [HV0.out] at hb4; have dX4 := dXa.kept hb4 (by omega); have x0 := dX4.cell0; have x1 := dX4.cell1; have x2 := dX4.cell2; have x3 := dX4.cell3; have f3 := dX4.free 3)
    | fail)
  clear c0_d1 c1_d1 c2_d1 c3_d1 c0_d2 c1_d2 c2_d2 c3_d2 x0 x1 x2 x3 f3 lt_d1 lt_d2 oX' rXa' dX bX dXa
  have dX5 := dX4.set3 (.slice (some ⟨g, 0, none⟩) len cap)
  have own5 := ownsRow_setCell_other own4 (a := ⟨w4.heap.size + 1, 3, none⟩) (by simp [Value.ownBlock]; omega) (.slice (some ⟨g, 0, none⟩) len cap)
  have hV5 : Below V0.heap.size V0 (w4'.setCell ⟨w4.heap.size + 1, 3, none⟩ (.slice (some ⟨g, 0, none⟩) len cap)) := (bXa.trans (hb4.mono (by rw [HXs.out]; omega))).setCell (by rw [HXs.out]; exact Nat.le_refl _) _
  have hgX : w4.heap.size + 1 ≠ g := by omega
  have hgV : V0.heap.size ≤ g := by rw [HXs.out]; omega
  clear dX4 own4 hb4 bXa
  go_loopw [18] (fun iv wr => ∃ k : Nat, iv = .int .i64 k ∧ k ≤ len ∧ wr.ownsRow (w4.heap.size + 1 + 1) 5 1 (.slice (some ⟨g, 0, none⟩) len cap) len ((PC.take k ++ PA.drop k).map (Value.int .u8)) ∧ Quad wr (w4.heap.size + 1) 24 (.int .i64 z.bits) (.int .i64 z.hashes) (.int .i64 z.salt) (.slice (some ⟨g, 0, none⟩) len cap) ∧ Below V0.heap.size V0 wr) (fun iv _ => len - (intOf iv).toNat)
  case atStart => exact ⟨0, rfl, Nat.zero_le _, own5, dX5, hV5⟩
  case round =>
    obtain ⟨k, rfl, hk, own, dX, hV⟩ := hrel
    clear own5 dX5 hV5
    have k0 : (0 : Int) ≤ (k : Int) := by omega
    have e1 : IntKind.i64.wrap ((k : Int) + 1) = (k : Int) + 1 := IntWalk.i64_in _ (by omega)
    have x3 := dX.cell3
    by_cases hlt : k < len
    · have k1 : (k : Int) < (len : Int) := by omega
      have hl2 : PC.length = PA.length := by rw [LC.out, LA.out]
      have hms := mix_set PC PA k hl2 (by rw [LC.out]; exact hlt)
      have hmx := mix_at PC PA k hl2 (by rw [LC.out]; exact hlt)
      obtain ⟨R, hR⟩ : ∃ R, PC.take k ++ PA.drop k = R := ⟨_, rfl⟩
      rw [hR] at own hms hmx
      have hRl : R.length = len := by rw [← hR]; simp [LC.out, LA.out]; omega
      have hcx := owns_cell own k (by omega)
      have hfx := owns_free own k
      rw [hmx] at hcx
      have hj := HJ.out k hlt
      have hbx := Sm.byte_at PA YA.out k
      have hby := Sm.byte_at PB YB.out k
      have e2 := d2.stp hV
      have q3 := e2.cell3
      obtain ⟨b_y, o_y, ea, hc_y⟩ : ∃ b o, a2 = some ⟨b, o, none⟩ ∧ ∀ i, i < PB.length → wr.cell? ⟨b, o + i, none⟩ = some (.int .u8 (PB[i]?.getD 0)) := by
        obtain ⟨_, _, e, _, _, _, _, h5⟩ := r2.stp hV
        injection e with q1 _ q3
        subst q1 q3
        obtain ⟨b, o, e, _, hc⟩ := h5 (by intro h0; have := LB.out; rw [h0] at this; simp at this; omega)
        exact ⟨b, o, e, hc⟩
      replace hc_y := hc_y k (by rw [LB.out]; exact hlt)
      subst ea
      obtain ⟨x, hx⟩ : ∃ x, PA[k]?.getD 0 = x := ⟨_, rfl⟩
      obtain ⟨y, hy⟩ : ∃ x, PB[k]?.getD 0 = x := ⟨_, rfl⟩
      obtain ⟨u, hu⟩ : ∃ x, PC[k]?.getD 0 = x := ⟨_, rfl⟩
      rw [hx] at hcx hj hbx
      rw [hy] at hc_y hj hby
      rw [hu] at hj hms
      have eor : bits .or .u8 x y = u := by rw [or8 x y hbx hby, hj]
      have own2 := owns_set own k (.int .u8 u)
      rw [← List.map_set, hms] at own2
      have dX2 := dX.other (p := ⟨g, k, none⟩) (by exact fun h => hgX h.symm) (.int .u8 u)
      have hV2 := hV.setCell (p := ⟨g, k, none⟩) hgV (.int .u8 u)
      have O2 := Lib.hid own2; have D2 := Lib.hid dX2; have V2 := Lib.hid hV2
      clear hms hmx hR hj hbx hby hx hy hu own2 dX2 hV2 hl2 own
      go_wp2_with fail
      go_region
      all_goals
        go_wp2_with fail
        go_roundw
        case rel => exact ⟨k + 1, by go_num, by omega, O2.out, D2.out, V2.out.drew⟩
        case measure => simp [intOf]; omega
    · obtain rfl : k = len := by omega
      have hC : PC.take k ++ PA.drop k = PC := by
        have h1 := LC.out; have h2 := LA.out
        rw [List.take_of_length_le (by omega), List.drop_eq_nil_of_le (by omega), List.append_nil]
      rw [hC] at own
      have rX : Row .u8 wr (.slice (some ⟨g, 0, none⟩) k cap) PC := owns_row (by rw [LC.out]; exact own) YC.out
      have e3 := d3.stp hV
      have q0 := e3.cell0; have q1 := e3.cell1; have q2 := e3.cell2; have q3 := e3.cell3
      have x0 := dX.cell0; have x1 := dX.cell1; have x2 := dX.cell2
      have rC := r3.stp hV
      have hBw := bel_stp hB hV
      clear hC own
      go_wp2_with fail
      refine (SSame_yes z.bits z.hashes z.salt _ _ PC _ (by exact rX) (by exact rC)).mono ?_; rintro e wf ⟨rfl, hbf⟩
      go_wp2_with fail
      go_ret
      exact ⟨rfl, bel_stp hBw hbf⟩
end Go.Proofs.Ytpmkinnfbnfmbaa
