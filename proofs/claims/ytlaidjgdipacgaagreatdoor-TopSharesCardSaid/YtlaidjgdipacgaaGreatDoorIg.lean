/-
  greatsealtop.up: the example is as the document says.
-/
import Derived.Test.YtlaidjgdipacgaaGreatDoorWh
import Derived.Test.YtlaidjgdipacgaaGreatDoorWc
import Derived.Test.YtlaidjgdipacgaaGreatDoorWm
import Derived.Test.YtlaidjgdipacgaaGreatDoorWg
import Derived.Lib.SmallJoins
namespace Go.Proofs.YtlaidjgdipacgaaGreatDoor
open Go.RowKit Go.Shelf
attribute [local go_sem] Oper.semAt_some

theorem row_mark (W : World) (t : TypeId) (l : List Int) (fr : Nat × Nat) (hm : l.length ≤ maxLen) (hw : ∀ x ∈ l, (Lit.int .u8 x).wf = true) :
    Row .u8 (W.alloc (.cells (l.map (Value.int .u8)).toArray t fr)) (.slice (some ⟨W.heap.size, 0, none⟩) l.length l.length) l := by
  refine ⟨_, _, rfl, Nat.le_refl _, hm, (fun h => by cases h), hw, fun _ => ⟨_, _, rfl, by simp, fun i hi => ?_⟩⟩
  have hh : (W.alloc (.cells (l.map (Value.int .u8)).toArray t fr)).heap[W.heap.size]? = some (.cells (l.map (Value.int .u8)).toArray t fr) := by
    show (W.heap.push _)[W.heap.size]? = _
    simp
  simp only [World.cell?, hh]; simp [hi]
theorem row_1 (k : Int) (W : World) (hk : byte k) : Row .u8 (W.alloc (.cells #[.int .u8 k] 5 (1, 2))) (.slice (some ⟨W.heap.size, 0, none⟩) 1 1) [k] :=
  row_mark W 5 [k] (1, 2) (by unfold maxLen; simp) (fun x hx => by obtain rfl := List.mem_singleton.1 hx; exact WalkArith.wf_u8 hk)
theorem row_txt (W : World) : Row .u8 (W.alloc (.cells #[.int .u8 97, .int .u8 108, .int .u8 108, .int .u8 111, .int .u8 119, .int .u8 32, .int .u8 119, .int .u8 101, .int .u8 98, .int .u8 32, .int .u8 123, .int .u8 32, .int .u8 42, .int .u8 46, .int .u8 97, .int .u8 59, .int .u8 32, .int .u8 108, .int .u8 105, .int .u8 102, .int .u8 101, .int .u8 32, .int .u8 57, .int .u8 59, .int .u8 32, .int .u8 125] 5 (26, 27))) (.slice (some ⟨W.heap.size, 0, none⟩) 26 26) txt := row_mark W 5 txt (26, 27) (by decide) (by decide)
/-- One literal more. -/
theorem bel_lit {w W : World} (h : Below w.heap.size w W) (o : Obj) : Below w.heap.size w (W.alloc o) := h.alloc h.size o
theorem bel_then {w V W : World} (h : Below w.heap.size w V) (k : Below V.heap.size V W) : Below w.heap.size w W := h.trans (k.mono h.size)

/-- One operation of a region taken first, handed over by its place in the list. -/
theorem takeH {P : Program} {md : Region.Mode} {Q : Exit → Act → World → Prop} {S : World → Prop} {l : List Oper} (i : Nat) {oi : Oper} {r : List Oper} {v : Value} {fuel : Nat} {listed : Array Bool} {a : Act} {w : World} (hi : l.drop i = oi :: r)
    (hs : Region.noSelect l.toArray = true) (hf : Region.free md l.toArray listed i = true) (hr : (Region.ready md l.toArray listed).contains i = true)
    (hQ : ∀ c a w, Q (.panic c) (a.put oi.dst v) w → Q (.panic c) a w) (hw : Region.wanted oi (yielded l.toArray a.tmps) = true) (hy : ∀ w, S w → (execOp a.eval oi).run P w = .ok (.value v) w) (hS : S w)
    (h : wpAnyH P md l.toArray Q S fuel (listed.setIfInBounds i true) (a.put oi.dst v) w) : wpAnyH P md l.toArray Q S (fuel + 1) listed a w := by
  have hl : l.toArray[i]? = some oi := by
    have := congrArg (fun x => x[0]?) hi
    simpa using this
  exact wpAnyH_take hl hs hf hr hQ (.inl ⟨hw, hy⟩) hS h
/-- One operation that alone may come up. -/
theorem stepH {P : Program} {md : Region.Mode} {Q : Exit → Act → World → Prop} {S : World → Prop} {l : List Oper} (i : Nat) {o : Oper} {r : List Oper} {fuel : Nat} {listed : Array Bool} {a : Act} {w : World} (hi : l.drop i = o :: r)
    (hr : Region.ready md l.toArray listed = [i]) (hw : Region.wanted o (yielded l.toArray a.tmps) = true)
    (h : ∀ K' : Act → World → Prop, Shut (∀ a w, S w → (S w → wpAnyH P md l.toArray Q S fuel (listed.setIfInBounds i true) a w) → K' a w) → Oper.wp P o a w K' Q) : wpAnyH P md l.toArray Q S (fuel + 1) listed a w := by
  have hl : l.toArray[i]? = some o := by
    have := congrArg (fun x => x[0]?) hi
    simpa using this
  exact wpAnyH_ready hr (by simp) (AllReadyH.cons hl (fun K hK => by rw [if_pos hw]; exact h K hK) AllReadyH.nil)

theorem eq_sum (a b c d : Int) (w : World) : (Op.equalIn 10000 53 (.agg #[.int .u64 a, .int .u64 b]) (.agg #[.int .u64 c, .int .u64 d])).run Tryz.prog w = .ok (a == c && b == d) w := by
  have u3 := Tryz.underlying25
  have a3 := Tryz.isAgg25
  have z3 := Tryz.sizeOf25
  rw [show (10000 : Nat) = 9999 + 1 from rfl, Op.equalIn]
  simp only [Sem.run_bind, run_underlying Tryz.underlying53, Result.andThen_ok]
  simp only [Std.Legacy.Range.forIn_eq_forIn_range', Std.Legacy.Range.size, Nat.sub_zero, Nat.add_sub_cancel, Nat.div_one, List.range'_succ, List.range'_zero, List.forIn_cons, List.forIn_nil]
  go_simp
  by_cases h1 : a = c <;> by_cases h2 : b = d <;> simp [h1, h2]
set_option maxRecDepth 100000 in
set_option maxHeartbeats 800000 in
theorem up_true (w : World) (hk : KindsAt w) : Calls Tryz.prog 4 #[] w fun e w' => e = .returned (.bool true) ∧ Below w.heap.size w w' := by
  obtain ⟨x, hx⟩ : ∃ x, Gm.secret [97] = x := ⟨_, rfl⟩
  have xr := Gm.some_rng Gm.tSecret [[97]]
  have hx' : Gm.some Gm.tSecret [[97]] = x := hx
  rw [hx'] at xr
  have gr := Gm.base_in x
  have C1 := fun W => Secret_any (.slice (some ⟨W.heap.size, 0, none⟩) 1 1) [97] (W.alloc (.cells #[.int .u8 97] 5 (1, 2))) (row_1 97 W (by unfold byte; decide)) (by decide)
  have C2 := fun W => SPublic_yes x W (by omega) xr.2
  have C3 := fun W => Sign_yes x (.slice (some ⟨W.heap.size, 0, none⟩) 1 1) [109] (W.alloc (.cells #[.int .u8 109] 5 (1, 2))) (by omega) xr.2 (row_1 109 W (by unfold byte; decide)) (by decide)
  have C4 := fun v W (h : Row .u8 W v [109]) => SCheck_yes x v [109] W (by omega) xr.2 h (by decide)
  have C5 := fun W => Leaf_any (.slice (some ⟨W.heap.size, 0, none⟩) 1 1) [120] (W.alloc (.cells #[.int .u8 120] 5 (1, 2))) (row_1 120 W (by unfold byte; decide)) (by decide)
  have C6 := fun W => Parse_text W.heap.size 26 (W.alloc (.cells #[.int .u8 97, .int .u8 108, .int .u8 108, .int .u8 111, .int .u8 119, .int .u8 32, .int .u8 119, .int .u8 101, .int .u8 98, .int .u8 32, .int .u8 123, .int .u8 32, .int .u8 42, .int .u8 46, .int .u8 97, .int .u8 59, .int .u8 32, .int .u8 108, .int .u8 105, .int .u8 102, .int .u8 101, .int .u8 32, .int .u8 57, .int .u8 59, .int .u8 32, .int .u8 125] 5 (26, 27))) (row_txt W)
  have C7 := fun W => Int_128 W
  have C8 := fun a c W (hb : Below w.heap.size w W) hr => Put_128 a c W (hk.below hb) hr
  rw [hx] at C1
  obtain ⟨g, hg⟩ : ∃ g, Gm.base x = g := ⟨_, rfl⟩
  obtain ⟨E, hE⟩ : ∃ E, Gm.sigE x [109] = E := ⟨_, rfl⟩
  obtain ⟨S, hS⟩ : ∃ S, Gm.sigS x [109] = S := ⟨_, rfl⟩
  obtain ⟨la, hla⟩ : ∃ z, (leafSum [120]).a = z := ⟨_, rfl⟩
  obtain ⟨lb, hlb⟩ : ∃ z, (leafSum [120]).b = z := ⟨_, rfl⟩
  rw [hg] at C2 C4 gr
  rw [hE, hS] at C3 C4
  rw [hla, hlb] at C5
  have g0 : (g != 0) = true := by rw [bne_iff_ne]; omega
  have H1 := Lib.hid C1; have H2 := Lib.hid C2; have H3 := Lib.hid C3; have H4 := Lib.hid C4; have H5 := Lib.hid C5; have H6 := Lib.hid C6; have H7 := Lib.hid C7; have H8 := Lib.hid C8
  clear C1 C2 C3 C4 C5 C6 C7 C8 hx hx' xr hg hE hS hla hlb gr hk
  have hcv : ∀ (W : World) (C : Array Value) (n c : Nat), (Go.convert 22 22 (.slice (some ⟨W.heap.size, 0, none⟩) n c)).run Tryz.prog (W.alloc (.cells C 5)) = .ok (.slice (some ⟨W.heap.size, 0, none⟩) n c) (W.alloc (.cells C 5 (C.size, C.size + 1))) := fun W C n c => Lib.run_convert_bytes_const W _ _ C n c Tryz.underlying22 Tryz.underlying5
  go_enter Tryz.func4, Tryz.ntmps4
  go_wp2_with fail
  refine (H1.out _).mono ?_; rintro e w1 ⟨rfl, hb1⟩
  have q1 := Lib.hid (bel_then (bel_lit (Below.refl _ w) _) hb1)
  clear hb1
  go_wp2_with fail
  refine (H2.out _).mono ?_; rintro e w2 ⟨rfl, hb2⟩
  have q2 := Lib.hid (bel_then q1.out hb2)
  clear hb2 q1
  go_wp2_with fail
  refine (H1.out _).mono ?_; rintro e w3 ⟨rfl, hb3⟩
  have q3 := Lib.hid (bel_then (bel_lit q2.out _) hb3)
  clear hb3 q2
  go_wp2_with fail
  refine (H3.out _).mono ?_; rintro e w4 ⟨rfl, hb4⟩
  have q4 := Lib.hid (bel_then (bel_lit q3.out _) hb4)
  clear hb4 q3
  have bS := Blk.new w4 36 [.int .u64 E, .int .u64 S]
  have q5 := bel_lit q4.out (.cells #[.int .u64 E, .int .u64 S] 36)
  go_wp2_with fail
  obtain ⟨B, hB⟩ : ∃ B, w4.heap.size = B := ⟨_, rfl⟩
  obtain ⟨V, hV⟩ : ∃ V, w4.alloc (.cells #[.int .u64 E, .int .u64 S] 36) = V := ⟨_, rfl⟩
  have bS' : Blk V B 36 [.int .u64 E, .int .u64 S] := by rw [← hV, ← hB]; exact bS
  rw [hV] at q5
  rw [hV, hB]
  have Q5 := Lib.hid q5; have BS := Lib.hid bS'
  clear q5 bS bS' hB hV q4
  refine (H7.out _).mono ?_; rintro e w5 ⟨⟨ia, ic, rfl, ir⟩, hb5⟩
  have q6 := bel_then Q5.out hb5; have s6 := BS.out.below hb5
  have Q6 := Lib.hid q6; have S6 := Lib.hid s6; have IR := Lib.hid ir
  clear q6 s6 ir hb5 Q5 BS
  go_wp2_with fail
  refine (H8.out ia ic _ Q6.out IR.out).mono ?_; rintro e w6 ⟨⟨pa, pc, rfl, pr⟩, hb6⟩
  have q7 := bel_lit (bel_then Q6.out hb6) ((.cells (txt.map (Value.int .u8)).toArray 5 (26, 27))); have s7 := (S6.out.below hb6).alloc ((.cells (txt.map (Value.int .u8)).toArray 5 (26, 27))); have r7 := pr.alloc ((.cells (txt.map (Value.int .u8)).toArray 5 (26, 27)))
  have Q7 := Lib.hid q7; have S7 := Lib.hid s7; have R7 := Lib.hid r7
  clear q7 s7 r7 pr hb6 Q6 S6 IR
  go_wp2_with fail
  refine (H6.out _).mono ?_; rintro e w7 ⟨⟨gr, gd, rfl, hc9⟩, hb7⟩
  have q8 := bel_lit (bel_then Q7.out hb7) (.cells #[.int .u8 120] 5 (1, 2)); have s8 := (S7.out.below hb7).alloc (.cells #[.int .u8 120] 5 (1, 2)); have r8 := (R7.out.below hb7).alloc (.cells #[.int .u8 120] 5 (1, 2))
  have gl := World.block_lt_of_cell? w7 _ hc9
  have c8 := (Below.cell (p := ⟨gr, 4, none⟩) ((Below.refl w7.heap.size w7).alloc (Nat.le_refl _) (.cells #[.int .u8 120] 5 (1, 2))) gl).trans hc9
  have Q8 := Lib.hid q8; have S8 := Lib.hid s8; have R8 := Lib.hid r8; have K8 := Lib.hid c8
  clear q8 s8 r8 c8 gl hc9 hb7 Q7 S7 R7
  go_wp2_with fail
  refine (H5.out _).mono ?_; rintro e w8 ⟨rfl, hb8⟩
  have q9 := bel_then Q8.out hb8; have s9 := S8.out.below hb8; have r9 := R8.out.below hb8
  have gl := World.block_lt_of_cell? _ _ K8.out
  have c9 := (hb8.cell (p := ⟨gr, 4, none⟩) gl).trans K8.out
  have gl9 := World.block_lt_of_cell? _ _ c9
  have Q9 := Lib.hid q9; have S9 := Lib.hid s9; have R9 := Lib.hid r9; have K9 := Lib.hid c9
  clear q9 s9 r9 c9 gl hb8 Q8 S8 R8 K8
  go_upto_region 6 with fail
  have bD := Blk.new w8 53 [.int .u64 la, .int .u64 lb]
  have q0 := bel_lit Q9.out (.cells #[.int .u64 la, .int .u64 lb] 53)
  have s0 := S9.out.alloc (.cells #[.int .u64 la, .int .u64 lb] 53)
  have r0 := R9.out.alloc (.cells #[.int .u64 la, .int .u64 lb] 53)
  have c0 := (Below.cell (p := ⟨gr, 4, none⟩) ((Below.refl w8.heap.size w8).alloc (Nat.le_refl _) (.cells #[.int .u64 la, .int .u64 lb] 53)) gl9).trans K9.out
  obtain ⟨D, hD⟩ : ∃ D, w8.heap.size = D := ⟨_, rfl⟩
  obtain ⟨Z, hZ⟩ : ∃ Z, w8.alloc (.cells #[.int .u64 la, .int .u64 lb] 53) = Z := ⟨_, rfl⟩
  rw [hZ] at bD q0 s0 r0 c0
  rw [hD] at bD
  rw [hZ, hD]
  have hcd : ∀ (W : World) (C : Array Value) (n c : Nat), (Go.convert 22 22 (.slice (some ⟨W.heap.size, 0, none⟩) n c)).run Tryz.prog (W.alloc (.cells C 5)).drew = .ok (.slice (some ⟨W.heap.size, 0, none⟩) n c) (W.alloc (.cells C 5 (C.size, C.size + 1))).drew := fun W C n c => Lib.run_convert_bytes_const W.drew _ _ C n c Tryz.underlying22 Tryz.underlying5
  have c00 := c0
  have hqs := eq_sum la lb la lb
  rw [show (la == la && lb == lb) = true by simp] at hqs
  have e0 := s0.cell 0 _ rfl; have e1 := s0.cell 1 _ rfl; have lB := s0.lt
  have d0 := bD.cell 0 _ rfl; have d1 := bD.cell 1 _ rfl; have lD := bD.lt
  have b109 : byte 109 := by unfold byte; decide
  have HC4 := Lib.hid (fun v W (h : Row .u8 W v [109]) => H4.out v W h)
  have Q0 := Lib.hid q0; have S0 := Lib.hid s0; have R0 := Lib.hid r0; have C0 := Lib.hid c0; have D0 := Lib.hid bD; have B109 := Lib.hid b109
  clear q0 s0 r0 c0 bD hZ hD Q9 S9 R9 K9 gl9 H1 H2 H3 H5 H6 H7 H8 b109 H4
  refine wp_region_noPanic ?_
  refine wp_region_held_drew (S := (fun w' => w'.cell? ⟨B, 0, none⟩ = some (.int .u64 E) ∧ w'.cell? ⟨B, 1, none⟩ = some (.int .u64 S) ∧ w'.cell? ⟨D, 0, none⟩ = some (.int .u64 la) ∧ w'.cell? ⟨D, 1, none⟩ = some (.int .u64 lb) ∧ w'.cell? ⟨gr, 4, none⟩ = some (.int .i64 9))) (by kernel_rfl) ?_ (fun hHeld => ?_)
  · (try dsimp only)
    (first | go_keep | (refine ⟨?_, ?_, ?_, ?_, ?_⟩ <;> assumption))
  refine takeH 0 (v := ?v0) rfl (by kernel_rfl) (by kernel_rfl) (by kernel_rfl) (fun _ _ _ h => h) (by rfl) ?hy0 (by assumption) ?rest0
  case hy0 =>
    intro w' hSw
    (try dsimp only at hSw)
    go_simp
    (try with_reducible rfl)
  (try simp only [Act.put, List.setIfInBounds_toArray, List.set_cons_zero, List.set_cons_succ])
  refine takeH 1 (v := ?v1) rfl (by kernel_rfl) (by kernel_rfl) (by kernel_rfl) (fun _ _ _ h => h) (by rfl) ?hy1 (by assumption) ?rest1
  case hy1 =>
    intro w' hSw
    (try dsimp only at hSw)
    go_simp
    (try with_reducible rfl)
  (try simp only [Act.put, List.setIfInBounds_toArray, List.set_cons_zero, List.set_cons_succ])
  refine takeH 2 (v := ?v2) rfl (by kernel_rfl) (by kernel_rfl) (by kernel_rfl) (fun _ _ _ h => h) (by rfl) ?hy2 (by assumption) ?rest2
  case hy2 =>
    intro w' hSw
    (try dsimp only at hSw)
    go_simp
    (try with_reducible rfl)
  (try simp only [Act.put, List.setIfInBounds_toArray, List.set_cons_zero, List.set_cons_succ])
  refine takeH 3 (v := ?v3) rfl (by kernel_rfl) (by kernel_rfl) (by kernel_rfl) (fun _ _ _ h => h) (by rfl) ?hy3 (by assumption) ?rest3
  case hy3 =>
    intro w' hSw
    (try dsimp only at hSw)
    go_simp
    (try with_reducible rfl)
  (try simp only [Act.put, List.setIfInBounds_toArray, List.set_cons_zero, List.set_cons_succ])
  refine takeH 4 (v := ?v4) rfl (by kernel_rfl) (by kernel_rfl) (by kernel_rfl) (fun _ _ _ h => h) (by rfl) ?hy4 (by assumption) ?rest4
  case hy4 =>
    intro w' hSw
    (try dsimp only at hSw)
    go_simp
    (try with_reducible rfl)
  (try simp only [Act.put, List.setIfInBounds_toArray, List.set_cons_zero, List.set_cons_succ])
  refine takeH 5 (v := ?v5) rfl (by kernel_rfl) (by kernel_rfl) (by kernel_rfl) (fun _ _ _ h => h) (by rfl) ?hy5 (by assumption) ?rest5
  case hy5 =>
    intro w' hSw
    (try dsimp only at hSw)
    go_simp
    (try with_reducible rfl)
  (try simp only [Act.put, List.setIfInBounds_toArray, List.set_cons_zero, List.set_cons_succ])
  refine takeH 6 (v := ?v6) rfl (by kernel_rfl) (by kernel_rfl) (by kernel_rfl) (fun _ _ _ h => h) (by rfl) ?hy6 (by assumption) ?rest6
  case hy6 =>
    intro w' hSw
    (try dsimp only at hSw)
    go_simp
    (try with_reducible rfl)
  (try simp only [Act.put, List.setIfInBounds_toArray, List.set_cons_zero, List.set_cons_succ])
  refine takeH 7 (v := ?v7) rfl (by kernel_rfl) (by kernel_rfl) (by kernel_rfl) (fun _ _ _ h => h) (by rfl) ?hy7 (by assumption) ?rest7
  case hy7 =>
    intro w' hSw
    (try dsimp only at hSw)
    go_simp
    (try with_reducible rfl)
  (try simp only [Act.put, List.setIfInBounds_toArray, List.set_cons_zero, List.set_cons_succ])
  refine takeH 8 (v := ?v8) rfl (by kernel_rfl) (by kernel_rfl) (by kernel_rfl) (fun _ _ _ h => h) (by rfl) ?hy8 (by assumption) ?rest8
  case hy8 =>
    intro w' hSw
    (try dsimp only at hSw)
    go_simp
    (try with_reducible rfl)
  (try simp only [Act.put, List.setIfInBounds_toArray, List.set_cons_zero, List.set_cons_succ])
  refine takeH 9 (v := ?v9) rfl (by kernel_rfl) (by kernel_rfl) (by kernel_rfl) (fun _ _ _ h => h) (by rfl) ?hy9 (by assumption) ?rest9
  case hy9 =>
    intro w' hSw
    (try dsimp only at hSw)
    go_simp
    (try with_reducible rfl)
  (try simp only [Act.put, List.setIfInBounds_toArray, List.set_cons_zero, List.set_cons_succ])
  refine takeH 10 (v := ?v10) rfl (by kernel_rfl) (by kernel_rfl) (by kernel_rfl) (fun _ _ _ h => h) (by rfl) ?hy10 (by assumption) ?rest10
  case hy10 =>
    intro w' hSw
    (try dsimp only at hSw)
    go_simp
    (try with_reducible rfl)
  (try simp only [Act.put, List.setIfInBounds_toArray, List.set_cons_zero, List.set_cons_succ])
  refine takeH 11 (v := ?v11) rfl (by kernel_rfl) (by kernel_rfl) (by kernel_rfl) (fun _ _ _ h => h) (by rfl) ?hy11 (by assumption) ?rest11
  case hy11 =>
    intro w' hSw
    (try dsimp only at hSw)
    go_simp
    (try with_reducible rfl)
  (try simp only [Act.put, List.setIfInBounds_toArray, List.set_cons_zero, List.set_cons_succ])
  refine takeH 12 (v := ?v12) rfl (by kernel_rfl) (by kernel_rfl) (by kernel_rfl) (fun _ _ _ h => h) (by rfl) ?hy12 (by assumption) ?rest12
  case hy12 =>
    intro w' hSw
    (try dsimp only at hSw)
    go_simp
    (try with_reducible rfl)
  (try simp only [Act.put, List.setIfInBounds_toArray, List.set_cons_zero, List.set_cons_succ])
  refine takeH 13 (v := ?v13) rfl (by kernel_rfl) (by kernel_rfl) (by kernel_rfl) (fun _ _ _ h => h) (by rfl) ?hy13 (by assumption) ?rest13
  case hy13 =>
    intro w' hSw
    (try dsimp only at hSw)
    go_simp
    (try with_reducible rfl)
  (try simp only [Act.put, List.setIfInBounds_toArray, List.set_cons_zero, List.set_cons_succ])
  refine takeH 14 (v := ?v14) rfl (by kernel_rfl) (by kernel_rfl) (by kernel_rfl) (fun _ _ _ h => h) (by rfl) ?hy14 (by assumption) ?rest14
  case hy14 =>
    intro w' hSw
    (try dsimp only at hSw)
    go_simp
    (try with_reducible rfl)
  (try simp only [Act.put, List.setIfInBounds_toArray, List.set_cons_zero, List.set_cons_succ])
  refine takeH 15 (v := ?v15) rfl (by kernel_rfl) (by kernel_rfl) (by kernel_rfl) (fun _ _ _ h => h) (by rfl) ?hy15 (by assumption) ?rest15
  case hy15 =>
    intro w' hSw
    (try dsimp only at hSw)
    go_simp
    (try with_reducible rfl)
  (try simp only [Act.put, List.setIfInBounds_toArray, List.set_cons_zero, List.set_cons_succ])
  refine takeH 16 (v := ?v16) rfl (by kernel_rfl) (by kernel_rfl) (by kernel_rfl) (fun _ _ _ h => h) (by rfl) ?hy16 (by assumption) ?rest16
  case hy16 =>
    intro w' hSw
    (try dsimp only at hSw)
    go_simp
    (try with_reducible rfl)
  (try simp only [Act.put, List.setIfInBounds_toArray, List.set_cons_zero, List.set_cons_succ])
  refine takeH 17 (v := ?v17) rfl (by kernel_rfl) (by kernel_rfl) (by kernel_rfl) (fun _ _ _ h => h) (by rfl) ?hy17 (by assumption) ?rest17
  case hy17 =>
    intro w' hSw
    (try dsimp only at hSw)
    go_simp
    (try with_reducible rfl)
  (try simp only [Act.put, List.setIfInBounds_toArray, List.set_cons_zero, List.set_cons_succ])
  refine takeH 18 (v := ?v18) rfl (by kernel_rfl) (by kernel_rfl) (by kernel_rfl) (fun _ _ _ h => h) (by rfl) ?hy18 (by assumption) ?rest18
  case hy18 =>
    intro w' hSw
    (try dsimp only at hSw)
    go_simp
    (try with_reducible rfl)
  (try simp only [Act.put, List.setIfInBounds_toArray, List.set_cons_zero, List.set_cons_succ])
  refine takeH 19 (v := ?v19) rfl (by kernel_rfl) (by kernel_rfl) (by kernel_rfl) (fun _ _ _ h => h) (by rfl) ?hy19 (by assumption) ?rest19
  case hy19 =>
    intro w' hSw
    (try dsimp only at hSw)
    go_simp
    (try with_reducible rfl)
  (try simp only [Act.put, List.setIfInBounds_toArray, List.set_cons_zero, List.set_cons_succ])
  refine takeH 22 (v := ?v22) rfl (by kernel_rfl) (by kernel_rfl) (by kernel_rfl) (fun _ _ _ h => h) (by rfl) ?hy22 (by assumption) ?rest22
  case hy22 =>
    intro w' hSw
    (try dsimp only at hSw)
    go_simp
    (try with_reducible rfl)
  (try simp only [Act.put, List.setIfInBounds_toArray, List.set_cons_zero, List.set_cons_succ])
  refine stepH 20 rfl (by kernel_rfl) (by rfl) ?_
  intro K hK
  go_simp
  refine hK.out _ _ ?_ (fun hHeld => ?_)
  · (try dsimp only)
    (first | go_keep | (refine ⟨?_, ?_, ?_, ?_, ?_⟩ <;> assumption))
  clear hK K
  (try simp only [Act.put, List.setIfInBounds_toArray, List.set_cons_zero, List.set_cons_succ])
  refine stepH 21 rfl (by kernel_rfl) (by rfl) ?_
  intro K hK
  go_simp
  refine hK.out _ _ ?_ (fun hHeld => ?_)
  · (try dsimp only)
    (first | go_keep | (refine ⟨?_, ?_, ?_, ?_, ?_⟩ <;> assumption))
  clear hK K
  (try simp only [Act.put, List.setIfInBounds_toArray, List.set_cons_zero, List.set_cons_succ])
  refine stepH 23 rfl (by kernel_rfl) (by rfl) ?_
  intro K hK
  go_simp
  go_at_call 9
  refine (HC4.out _ _ (by first | exact row_1 109 Z B109.out | exact (row_1 109 Z B109.out).drew | exact row_1 109 Z.drew B109.out)).mono ?_
  rintro e w9 ⟨rfl, hb9⟩
  have z9 : Below Z.heap.size Z w9 := by first | exact Below.trans (((Below.refl Z.heap.size Z).alloc (Nat.le_refl _) _).drew) (hb9.mono (by simp)) | exact Below.trans (((Below.refl Z.heap.size Z).drew.alloc (Nat.le_refl _) _)) (hb9.mono (by simp))
  have cv := (R0.out.below z9).convert
  rw [show strOfNums [2, 2, 0, 128] = ⟨#[2, 2, 0, 128]⟩ by decide] at cv
  have c4 := (z9.cell (p := ⟨gr, 4, none⟩) (World.block_lt_of_cell? _ _ C0.out)).trans C0.out
  have D9 := Lib.hid (D0.out.below z9); have S9 := Lib.hid (S0.out.below z9)
  have f0 := D9.out.cell 0 _ rfl; have f1 := D9.out.cell 1 _ rfl; have lD9 := D9.out.lt
  have f2 := S9.out.cell 0 _ rfl; have f3 := S9.out.cell 1 _ rfl; have lS9 := S9.out.lt
  have Z9 := Lib.hid z9
  clear z9 hb9
  refine hK.out _ _ ?_ (fun hHeld => ?_)
  · (try dsimp only)
    (first | go_keep | (refine ⟨?_, ?_, ?_, ?_, ?_⟩ <;> assumption))
  clear hK K
  (try simp only [Act.put, List.setIfInBounds_toArray, List.set_cons_zero, List.set_cons_succ])
  refine takeH 24 (v := ?v24) rfl (by kernel_rfl) (by kernel_rfl) (by kernel_rfl) (fun _ _ _ h => h) (by rfl) ?hy24 (by assumption) ?rest24
  case hy24 =>
    intro w' hSw
    (try dsimp only at hSw)
    go_simp
    (try with_reducible rfl)
  (try simp only [Act.put, List.setIfInBounds_toArray, List.set_cons_zero, List.set_cons_succ])
  refine takeH 25 (v := ?v25) rfl (by kernel_rfl) (by kernel_rfl) (by kernel_rfl) (fun _ _ _ h => h) (by rfl) ?hy25 (by assumption) ?rest25
  case hy25 =>
    intro w' hSw
    (try dsimp only at hSw)
    go_simp
    (try with_reducible rfl)
  (try simp only [Act.put, List.setIfInBounds_toArray, List.set_cons_zero, List.set_cons_succ])
  refine takeH 26 (v := ?v26) rfl (by kernel_rfl) (by kernel_rfl) (by kernel_rfl) (fun _ _ _ h => h) (by rfl) ?hy26 (by assumption) ?rest26
  case hy26 =>
    intro w' hSw
    (try dsimp only at hSw)
    go_simp
    (try with_reducible rfl)
  (try simp only [Act.put, List.setIfInBounds_toArray, List.set_cons_zero, List.set_cons_succ])
  refine takeH 27 (v := ?v27) rfl (by kernel_rfl) (by kernel_rfl) (by kernel_rfl) (fun _ _ _ h => h) (by rfl) ?hy27 (by assumption) ?rest27
  case hy27 =>
    intro w' hSw
    (try dsimp only at hSw)
    go_simp
    (try with_reducible rfl)
  (try simp only [Act.put, List.setIfInBounds_toArray, List.set_cons_zero, List.set_cons_succ])
  refine stepH 28 rfl (by kernel_rfl) (by rfl) ?_
  intro K hK
  go_simp
  refine hK.out _ _ ?_ (fun hHeld => ?_)
  · (try dsimp only)
    (first | go_keep | (refine ⟨?_, ?_, ?_, ?_, ?_⟩ <;> assumption))
  clear hK K
  (try simp only [Act.put, List.setIfInBounds_toArray, List.set_cons_zero, List.set_cons_succ])
  refine takeH 29 (v := ?v29) rfl (by kernel_rfl) (by kernel_rfl) (by kernel_rfl) (fun _ _ _ h => h) (by rfl) ?hy29 (by assumption) ?rest29
  case hy29 =>
    intro w' hSw
    (try dsimp only at hSw)
    go_simp
    (try with_reducible rfl)
  (try simp only [Act.put, List.setIfInBounds_toArray, List.set_cons_zero, List.set_cons_succ])
  refine takeH 30 (v := ?v30) rfl (by kernel_rfl) (by kernel_rfl) (by kernel_rfl) (fun _ _ _ h => h) (by rfl) ?hy30 (by assumption) ?rest30
  case hy30 =>
    intro w' hSw
    (try dsimp only at hSw)
    go_simp
    (try with_reducible rfl)
  (try simp only [Act.put, List.setIfInBounds_toArray, List.set_cons_zero, List.set_cons_succ])
  refine takeH 31 (v := ?v31) rfl (by kernel_rfl) (by kernel_rfl) (by kernel_rfl) (fun _ _ _ h => h) (by rfl) ?hy31 (by assumption) ?rest31
  case hy31 =>
    intro w' hSw
    (try dsimp only at hSw)
    go_simp
    (try with_reducible rfl)
  (try simp only [Act.put, List.setIfInBounds_toArray, List.set_cons_zero, List.set_cons_succ])
  refine takeH 32 (v := ?v32) rfl (by kernel_rfl) (by kernel_rfl) (by kernel_rfl) (fun _ _ _ h => h) (by rfl) ?hy32 (by assumption) ?rest32
  case hy32 =>
    intro w' hSw
    (try dsimp only at hSw)
    go_simp
    (try with_reducible rfl)
  (try simp only [Act.put, List.setIfInBounds_toArray, List.set_cons_zero, List.set_cons_succ])
  refine takeH 33 (v := ?v33) rfl (by kernel_rfl) (by kernel_rfl) (by kernel_rfl) (fun _ _ _ h => h) (by rfl) ?hy33 (by assumption) ?rest33
  case hy33 =>
    intro w' hSw
    (try dsimp only at hSw)
    go_simp
    (try with_reducible rfl)
  (try simp only [Act.put, List.setIfInBounds_toArray, List.set_cons_zero, List.set_cons_succ])
  refine takeH 34 (v := ?v34) rfl (by kernel_rfl) (by kernel_rfl) (by kernel_rfl) (fun _ _ _ h => h) (by rfl) ?hy34 (by assumption) ?rest34
  case hy34 =>
    intro w' hSw
    (try dsimp only at hSw)
    go_simp
    (try with_reducible rfl)
  (try simp only [Act.put, List.setIfInBounds_toArray, List.set_cons_zero, List.set_cons_succ])
  refine takeH 35 (v := ?v35) rfl (by kernel_rfl) (by kernel_rfl) (by kernel_rfl) (fun _ _ _ h => h) (by rfl) ?hy35 (by assumption) ?rest35
  case hy35 =>
    intro w' hSw
    (try dsimp only at hSw)
    go_simp
    (try with_reducible rfl)
  (try simp only [Act.put, List.setIfInBounds_toArray, List.set_cons_zero, List.set_cons_succ])
  refine takeH 36 (v := ?v36) rfl (by kernel_rfl) (by kernel_rfl) (by kernel_rfl) (fun _ _ _ h => h) (by rfl) ?hy36 (by assumption) ?rest36
  case hy36 =>
    intro w' hSw
    (try dsimp only at hSw)
    go_simp
    (try with_reducible rfl)
  (try simp only [Act.put, List.setIfInBounds_toArray, List.set_cons_zero, List.set_cons_succ])
  refine takeH 37 (v := ?v37) rfl (by kernel_rfl) (by kernel_rfl) (by kernel_rfl) (fun _ _ _ h => h) (by rfl) ?hy37 (by assumption) ?rest37
  case hy37 =>
    intro w' hSw
    (try dsimp only at hSw)
    go_simp
    (try with_reducible rfl)
  (try simp only [Act.put, List.setIfInBounds_toArray, List.set_cons_zero, List.set_cons_succ])
  refine takeH 38 (v := ?v38) rfl (by kernel_rfl) (by kernel_rfl) (by kernel_rfl) (fun _ _ _ h => h) (by rfl) ?hy38 (by assumption) ?rest38
  case hy38 =>
    intro w' hSw
    (try dsimp only at hSw)
    go_simp
    (try with_reducible rfl)
  (try simp only [Act.put, List.setIfInBounds_toArray, List.set_cons_zero, List.set_cons_succ])
  refine takeH 39 (v := ?v39) rfl (by kernel_rfl) (by kernel_rfl) (by kernel_rfl) (fun _ _ _ h => h) (by rfl) ?hy39 (by assumption) ?rest39
  case hy39 =>
    intro w' hSw
    (try dsimp only at hSw)
    go_simp
    (try with_reducible rfl)
  (try simp only [Act.put, List.setIfInBounds_toArray, List.set_cons_zero, List.set_cons_succ])
  refine takeH 40 (v := ?v40) rfl (by kernel_rfl) (by kernel_rfl) (by kernel_rfl) (fun _ _ _ h => h) (by rfl) ?hy40 (by assumption) ?rest40
  case hy40 =>
    intro w' hSw
    (try dsimp only at hSw)
    go_simp
    (try with_reducible rfl)
  (try simp only [Act.put, List.setIfInBounds_toArray, List.set_cons_zero, List.set_cons_succ])
  refine takeH 41 (v := ?v41) rfl (by kernel_rfl) (by kernel_rfl) (by kernel_rfl) (fun _ _ _ h => h) (by rfl) ?hy41 (by assumption) ?rest41
  case hy41 =>
    intro w' hSw
    (try dsimp only at hSw)
    go_simp
    (try with_reducible rfl)
  (try simp only [Act.put, List.setIfInBounds_toArray, List.set_cons_zero, List.set_cons_succ])
  refine takeH 42 (v := ?v42) rfl (by kernel_rfl) (by kernel_rfl) (by kernel_rfl) (fun _ _ _ h => h) (by rfl) ?hy42 (by assumption) ?rest42
  case hy42 =>
    intro w' hSw
    (try dsimp only at hSw)
    go_simp
    (try with_reducible rfl)
  (try simp only [Act.put, List.setIfInBounds_toArray, List.set_cons_zero, List.set_cons_succ])
  refine takeH 43 (v := ?v43) rfl (by kernel_rfl) (by kernel_rfl) (by kernel_rfl) (fun _ _ _ h => h) (by rfl) ?hy43 (by assumption) ?rest43
  case hy43 =>
    intro w' hSw
    (try dsimp only at hSw)
    go_simp
    (try with_reducible rfl)
  (try simp only [Act.put, List.setIfInBounds_toArray, List.set_cons_zero, List.set_cons_succ])
  refine takeH 44 (v := ?v44) rfl (by kernel_rfl) (by kernel_rfl) (by kernel_rfl) (fun _ _ _ h => h) (by rfl) ?hy44 (by assumption) ?rest44
  case hy44 =>
    intro w' hSw
    (try dsimp only at hSw)
    go_simp
    (try with_reducible rfl)
  (try simp only [Act.put, List.setIfInBounds_toArray, List.set_cons_zero, List.set_cons_succ])
  refine takeH 47 (v := ?v47) rfl (by kernel_rfl) (by kernel_rfl) (by kernel_rfl) (fun _ _ _ h => h) (by rfl) ?hy47 (by assumption) ?rest47
  case hy47 =>
    intro w' hSw
    (try dsimp only at hSw)
    go_simp
    (try with_reducible rfl)
  (try simp only [Act.put, List.setIfInBounds_toArray, List.set_cons_zero, List.set_cons_succ])
  refine stepH 45 rfl (by kernel_rfl) (by rfl) ?_
  intro K hK
  go_simp
  refine hK.out _ _ ?_ (fun hHeld => ?_)
  · (try dsimp only)
    (first | go_keep | (refine ⟨?_, ?_, ?_, ?_, ?_⟩ <;> assumption))
  clear hK K
  (try simp only [Act.put, List.setIfInBounds_toArray, List.set_cons_zero, List.set_cons_succ])
  refine stepH 46 rfl (by kernel_rfl) (by rfl) ?_
  intro K hK
  go_simp
  go_at_call 16
  refine (Root_one la lb w9.heap.size 1 _ (by simp) (Nat.le_refl _) (by simp) (by simp)).mono ?_
  rintro e w10 ⟨rfl, hb10⟩
  have z10 : Below Z.heap.size Z w10 := Z9.out.trans (((Below.refl w9.heap.size w9).alloc (Nat.le_refl _) _).trans (hb10.mono (by simp)) |>.mono Z9.out.size)
  have D10 := Lib.hid (D0.out.below z10); have S10 := Lib.hid (S0.out.below z10)
  have g0' := D10.out.cell 0 _ rfl; have g1' := D10.out.cell 1 _ rfl; have lD10 := D10.out.lt
  have g2' := S10.out.cell 0 _ rfl; have g3' := S10.out.cell 1 _ rfl; have lS10 := S10.out.lt
  have c5 := (z10.cell (p := ⟨gr, 4, none⟩) (World.block_lt_of_cell? _ _ C0.out)).trans C0.out
  have Z10 := Lib.hid z10
  clear z10 hb10
  refine hK.out _ _ ?_ (fun hHeld => ?_)
  · (try dsimp only)
    (first | go_keep | (refine ⟨?_, ?_, ?_, ?_, ?_⟩ <;> assumption))
  clear hK K
  (try simp only [Act.put, List.setIfInBounds_toArray, List.set_cons_zero, List.set_cons_succ])
  refine takeH 48 (v := ?v48) rfl (by kernel_rfl) (by kernel_rfl) (by kernel_rfl) (fun _ _ _ h => h) (by rfl) ?hy48 (by assumption) ?rest48
  case hy48 =>
    intro w' hSw
    (try dsimp only at hSw)
    go_simp
    (try with_reducible rfl)
  (try simp only [Act.put, List.setIfInBounds_toArray, List.set_cons_zero, List.set_cons_succ])
  refine takeH 49 (v := ?v49) rfl (by kernel_rfl) (by kernel_rfl) (by kernel_rfl) (fun _ _ _ h => h) (by rfl) ?hy49 (by assumption) ?rest49
  case hy49 =>
    intro w' hSw
    (try dsimp only at hSw)
    go_simp
    (try with_reducible rfl)
  (try simp only [Act.put, List.setIfInBounds_toArray, List.set_cons_zero, List.set_cons_succ])
  refine takeH 50 (v := ?v50) rfl (by kernel_rfl) (by kernel_rfl) (by kernel_rfl) (fun _ _ _ h => h) (by rfl) ?hy50 (by assumption) ?rest50
  case hy50 =>
    intro w' hSw
    (try dsimp only at hSw)
    go_simp
    (try with_reducible rfl)
  (try simp only [Act.put, List.setIfInBounds_toArray, List.set_cons_zero, List.set_cons_succ])
  refine stepH 51 rfl (by kernel_rfl) (by rfl) ?_
  intro K hK
  go_simp
  go_at_call 17
  with_reducible refine (match_x _).mono ?_
  rintro e w11 ⟨rfl, hb11⟩
  have Z11 := Lib.hid (Z10.out.trans (hb11.mono Z10.out.size))
  clear hb11
  have D11 := Lib.hid (D0.out.below Z11.out)
  have S11 := Lib.hid (S0.out.below Z11.out)
  have i0 := D11.out.cell 0 _ rfl
  have i1 := D11.out.cell 1 _ rfl
  have i2 := S11.out.cell 0 _ rfl
  have i3 := S11.out.cell 1 _ rfl
  have i4 := (Z11.out.cell (p := ⟨gr, 4, none⟩) (World.block_lt_of_cell? _ _ C0.out)).trans C0.out
  refine hK.out _ _ ?_ (fun hHeld => ?_)
  · (try dsimp only)
    (first | go_keep | (refine ⟨?_, ?_, ?_, ?_, ?_⟩ <;> assumption))
  clear hK K
  (try simp only [Act.put, List.setIfInBounds_toArray, List.set_cons_zero, List.set_cons_succ])
  refine takeH 52 (v := ?v52) rfl (by kernel_rfl) (by kernel_rfl) (by kernel_rfl) (fun _ _ _ h => h) (by rfl) ?hy52 (by assumption) ?rest52
  case hy52 =>
    intro w' hSw
    (try dsimp only at hSw)
    go_simp
    (try with_reducible rfl)
  (try simp only [Act.put, List.setIfInBounds_toArray, List.set_cons_zero, List.set_cons_succ])
  refine takeH 53 (v := ?v53) rfl (by kernel_rfl) (by kernel_rfl) (by kernel_rfl) (fun _ _ _ h => h) (by rfl) ?hy53 (by assumption) ?rest53
  case hy53 =>
    intro w' hSw
    (try dsimp only at hSw)
    go_simp
    (try with_reducible rfl)
  (try simp only [Act.put, List.setIfInBounds_toArray, List.set_cons_zero, List.set_cons_succ])
  refine stepH 54 rfl (by kernel_rfl) (by rfl) ?_
  intro K hK
  go_simp
  go_at_call 17
  with_reducible refine (match_a _).mono ?_
  rintro e w12 ⟨rfl, hb12⟩
  have Z12 := Lib.hid (Z11.out.trans (hb12.mono Z11.out.size))
  clear hb12
  have D12 := Lib.hid (D0.out.below Z12.out)
  have S12 := Lib.hid (S0.out.below Z12.out)
  have j0 := D12.out.cell 0 _ rfl
  have j1 := D12.out.cell 1 _ rfl
  have j2 := S12.out.cell 0 _ rfl
  have j3 := S12.out.cell 1 _ rfl
  have j4 := (Z12.out.cell (p := ⟨gr, 4, none⟩) (World.block_lt_of_cell? _ _ C0.out)).trans C0.out
  refine hK.out _ _ ?_ (fun hHeld => ?_)
  · (try dsimp only)
    (first | go_keep | (refine ⟨?_, ?_, ?_, ?_, ?_⟩ <;> assumption))
  clear hK K
  (try simp only [Act.put, List.setIfInBounds_toArray, List.set_cons_zero, List.set_cons_succ])
  refine takeH 55 (v := ?v55) rfl (by kernel_rfl) (by kernel_rfl) (by kernel_rfl) (fun _ _ _ h => h) (by rfl) ?hy55 (by assumption) ?rest55
  case hy55 =>
    intro w' hSw
    (try dsimp only at hSw)
    go_simp
    (try with_reducible rfl)
  (try simp only [Act.put, List.setIfInBounds_toArray, List.set_cons_zero, List.set_cons_succ])
  refine takeH 56 (v := ?v56) rfl (by kernel_rfl) (by kernel_rfl) (by kernel_rfl) (fun _ _ _ h => h) (by rfl) ?hy56 (by assumption) ?rest56
  case hy56 =>
    intro w' hSw
    (try dsimp only at hSw)
    go_simp
    (try with_reducible rfl)
  (try simp only [Act.put, List.setIfInBounds_toArray, List.set_cons_zero, List.set_cons_succ])
  refine takeH 57 (v := ?v57) rfl (by kernel_rfl) (by kernel_rfl) (by kernel_rfl) (fun _ _ _ h => h) (by rfl) ?hy57 (by assumption) ?rest57
  case hy57 =>
    intro w' hSw
    (try dsimp only at hSw)
    go_simp
    (try with_reducible rfl)
  (try simp only [Act.put, List.setIfInBounds_toArray, List.set_cons_zero])
  refine wpAnyH_done (by kernel_rfl) ?_ _
  refine NoPanic.normal ?_
  all_goals
    go_wp2_with fail
    go_ret
    exact ⟨rfl, Q0.out.trans (Z12.out.mono Q0.out.size)⟩
end Go.Proofs.YtlaidjgdipacgaaGreatDoor
