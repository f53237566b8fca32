/-
  The walk over wal.Read.
-/
import Derived.Test.YtiijlakilogekaaWx
import Derived.Test.YtiijlakilogekaaBc
import Derived.Maps.AppendAt
namespace Go.Proofs.Ytiijlakilogekaa
open Go.RowKit Go.Shelf

theorem info_row : (Try.prog.info? 22).map (fun i => (i.zero, i.size, i.bytes)) = some (some (.slice none 0 0), 1, 24) := by kernel_rfl

theorem owns_own {β : Type} {base : Nat} {e : TypeId} {size n : Nat} {v : Value} {xs : List Value} : Own (fun (_ : β) W => World.ownsRow W base e size v n xs) := fun _ A B row hs hg hr => by
  refine hs.kept hg ?_
  rcases hs.2 with ⟨rfl, _⟩ | ⟨g, cap, cur, rfl, _, hh, _⟩
  · exact .inl rfl
  · refine .inr fun e => ?_
    obtain ⟨o, ho, hc⟩ := hr g e.symm
    rw [hh] at ho; cases ho; cases hc

/-- A slice of slices of bytes that the call itself owns, the bytes too. -/
def HoldsRws (W : World) (base : Nat) (v : Value) (ls : List (List Int)) : Prop :=
  ∃ vs : List Value, W.ownsRow base 22 1 v ls.length vs ∧ ∀ i, i < ls.length → W.ownsRow base 5 1 (vs[i]?.getD undef) (ls[i]?.getD []).length ((ls[i]?.getD []).map (Value.int .u8))
theorem HoldsRws.own {β : Type} {base : Nat} {v : Value} {f : β → List (List Int)} : Own (fun s W => HoldsRws W base v (f s)) := fun s A B row hs hg hr => by
  obtain ⟨vs, h1, h2⟩ := hs
  exact ⟨vs, owns_own (β := Unit) () A B row h1 hg hr, fun i hi => owns_own (β := Unit) () A B row (h2 i hi) hg hr⟩
theorem HoldsRws.below {W W' : World} {base : Nat} {v : Value} {ls : List (List Int)} (h : HoldsRws W base v ls) (hb : Below W.heap.size W W') : HoldsRws W' base v ls := by
  obtain ⟨vs, h1, h2⟩ := h
  exact ⟨vs, owns_below h1 hb, fun i hi => owns_below (h2 i hi) hb⟩
theorem HoldsRws.rws {W : World} {base : Nat} {v : Value} {ls : List (List Int)} (h : HoldsRws W base v ls) (hb : ∀ l ∈ ls, ∀ x ∈ l, byte x) : Rws .u8 W v ls := by
  obtain ⟨vs, h1, h2⟩ := h
  refine Rws.of_owns h1 fun i hi => Row.of_bytes (h2 i hi) ?_
  rw [List.getElem?_eq_getElem hi]
  exact hb _ (List.getElem_mem hi)
theorem own_type_ne {W : World} {b1 b2 s1 s2 n1 n2 : Nat} {e1 e2 : TypeId} {v1 v2 : Value} {x1 x2 : List Value} (h1 : W.ownsRow b1 e1 s1 v1 n1 x1) (h2 : W.ownsRow b2 e2 s2 v2 n2 x2) (hne : e1 ≠ e2) : v1.ownBlock = none ∨ v1.ownBlock ≠ v2.ownBlock := by
  rcases h1.2 with ⟨rfl, _⟩ | ⟨g, cap, cur, rfl, _, hh, _⟩
  · exact .inl rfl
  · refine .inr fun e => ?_
    rcases h2.2 with ⟨rfl, _⟩ | ⟨g', cap', cur', rfl, _, hh', _⟩
    · simp [Value.ownBlock] at e
    · simp [Value.ownBlock] at e
      subst e
      rw [hh] at hh'
      injection hh' with hh'
      injection hh' with _ ht
      exact hne ht
/-- One more, behind an append. -/
theorem HoldsRws.snoc {W W1 : World} {base : Nat} {v v' r : Value} {ls : List (List Int)} {l : List Int} {vs : List Value} (h : W.ownsRow base 22 1 v ls.length vs) (hr : ∀ i, i < ls.length → W.ownsRow base 5 1 (vs[i]?.getD undef) (ls[i]?.getD []).length ((ls[i]?.getD []).map (Value.int .u8)))
    (hl : W.ownsRow base 5 1 r l.length (l.map (Value.int .u8))) (h' : W1.ownsRow base 22 1 v' (ls.length + 1) (vs ++ [r])) (hg : W.grownBy W1 v.ownBlock) : HoldsRws W1 base v' (ls ++ [l]) := by
  have hvl : vs.length = ls.length := by have := h.1; omega
  refine ⟨vs ++ [r], by simpa using h', fun i hi => ?_⟩
  by_cases hlt : i < ls.length
  · rw [List.getElem?_append_left (by omega), List.getElem?_append_left hlt]
    exact (hr i hlt).kept hg (own_type_ne (hr i hlt) h (by decide))
  · have : i = ls.length := by simp at hi; omega
    subst this
    rw [← hvl, List.getElem?_append_right (Nat.le_refl _), hvl, List.getElem?_append_right (Nat.le_refl _)]
    simp only [Nat.sub_self, List.getElem?_cons_zero, Option.getD_some]
    exact hl.kept hg (own_type_ne hl h (by decide))

theorem owns_slice {w : World} {base : Nat} {e : TypeId} {size n : Nat} {v : Value} {xs : List Value} (h : w.ownsRow base e size v n xs) : ∃ a n c, v = .slice a n c := by
  rcases h.2 with ⟨rfl, _⟩ | ⟨g, cap, cur, rfl, _⟩ <;> exact ⟨_, _, _, rfl⟩
theorem HoldsRws.same {W W' : World} {base : Nat} {v : Value} {ls : List (List Int)} (h : HoldsRws W base v ls) (hs : ∀ k, base ≤ k → k < W.heap.size → W'.heap[k]? = W.heap[k]?) : HoldsRws W' base v ls := by
  have own : ∀ {e : TypeId} {n : Nat} {u : Value} {xs : List Value}, W.ownsRow base e 1 u n xs → W'.ownsRow base e 1 u n xs := fun {e n u xs} h => by
    refine ⟨h.1, ?_⟩
    rcases h.2 with h | ⟨g, cap, cur, hv, hg, hh, r⟩
    · exact .inl h
    · exact .inr ⟨g, cap, cur, hv, hg, (hs g hg (Array.getElem?_eq_some_iff.1 hh).1).trans hh, r⟩
  obtain ⟨vs, h1, h2⟩ := h
  exact ⟨vs, own h1, fun i hi => own (h2 i hi)⟩

/-- One round of Read, on the worlds alone. -/
theorem read_step {W w2 w3 X : World} {Bl Bg base n : Nat} {v v' r g g' : Value} {vs : List Value} {ls : List (List Int)} {l : List Int} {tmp : Obj} (hv : Boxed W Bl 35 v) (hg : Boxed W Bg 3 g) (hne : Bl ≠ Bg) (hl : Bl < base) (hgb : Bg < base) (hbase : base ≤ W.heap.size) (hn : n ≤ Bl) (hn' : n ≤ Bg)
    (h1 : W.ownsRow base 22 1 v ls.length vs) (h2 : ∀ i, i < ls.length → W.ownsRow base 5 1 (vs[i]?.getD undef) (ls[i]?.getD []).length ((ls[i]?.getD []).map (Value.int .u8))) (hb2 : Below W.heap.size W w2) (hr : w2.ownsRow base 5 1 r l.length (l.map (Value.int .u8)))
    (h3 : w3.ownsRow base 22 1 v' (ls.length + 1) (vs ++ [r])) (hgr : (w2.alloc tmp).grownBy w3 v.ownBlock) (hX : X = (w3.setCell ⟨Bl, 0, none⟩ v').setCell ⟨Bg, 0, none⟩ g' ∨ X = (w3.setCell ⟨Bg, 0, none⟩ g').setCell ⟨Bl, 0, none⟩ v') :
    KeepsOthers W X ∧ (∀ k, k < base → k ≠ Bl → k ≠ Bg → X.heap[k]? = W.heap[k]?) ∧ Boxed X Bl 35 v' ∧ Boxed X Bg 3 g' ∧ HoldsRws X base v' (ls ++ [l]) ∧ Below n W X := by
  have hob : ∀ j, v.ownBlock = some j → base ≤ j ∧ ∀ o, (w2.alloc tmp).heap[j]? = some o → o.isCells = true := by
    intro j ej
    rcases (((owns_below h1 hb2).alloc tmp)).2 with ⟨rfl, _⟩ | ⟨q, cap, cur, rfl, hbq, hgb, _⟩
    · simp [Value.ownBlock] at ej
    · obtain rfl : q = j := by simpa [Value.ownBlock] using ej
      exact ⟨hbq, fun o ho => by rw [hgb] at ho; cases ho; rfl⟩
  have hsz : W.heap.size ≤ w2.heap.size := hb2.size
  have hlow : ∀ k, k < base → w3.heap[k]? = W.heap[k]? := fun k hk => (hgr.block k (by simp; omega) (fun e => by have := (hob k e.symm).1; omega)).trans ((Below.heap_alloc w2 tmp k (by omega)).trans (hb2.block k (by omega)))
  have hv3 : Boxed w3 Bl 35 v := (hlow Bl hl).trans hv
  have hg3 : Boxed w3 Bg 3 g := (hlow Bg hgb).trans hg
  have hk3 : KeepsOthers W w3 := ((KeepsOthers.of_grownBy (row := none) ⟨hb2.os, hb2.tape, hb2.output, hb2.size, fun k hk _ => hb2.block k hk⟩ (fun _ _ e => by cases e)).trans (KeepsOthers.alloc w2 tmp)).trans (KeepsOthers.of_grownBy hgr fun j o ej hj => (hob j ej).2 o hj)
  have hB3 : Below n W w3 := ((hb2.mono (by omega)).alloc (by omega) tmp).grown hgr (by simp; omega) fun j ej => by have := (hob j ej).1; omega
  have hH3 : HoldsRws w3 base v' (ls ++ [l]) := HoldsRws.snoc ((owns_below h1 hb2).alloc tmp) (fun i hi => (owns_below (h2 i hi) hb2).alloc tmp) (hr.alloc tmp) h3 hgr
  rcases hX with rfl | rfl
  · refine ⟨(hk3.trans (KeepsOthers.setCell _ _ _)).trans (KeepsOthers.setCell _ _ _), fun k hk e1 e2 => ?_, (hv3.set v').other hne g', (hg3.other hne.symm v').set g', hH3.same fun k hk _ => ?_, (hB3.setCell (p := ⟨Bl, 0, none⟩) (by omega) _).setCell (p := ⟨Bg, 0, none⟩) (by omega) _⟩
    · exact (Below.heap_setCell _ _ _ k e2).trans ((Below.heap_setCell _ _ _ k e1).trans (hlow k hk))
    · exact (Below.heap_setCell _ _ _ k (by simp; omega)).trans (Below.heap_setCell _ _ _ k (by simp; omega))
  · refine ⟨(hk3.trans (KeepsOthers.setCell _ _ _)).trans (KeepsOthers.setCell _ _ _), fun k hk e1 e2 => ?_, (hv3.other hne g').set v', (hg3.set g').other hne.symm v', hH3.same fun k hk _ => ?_, (hB3.setCell (p := ⟨Bg, 0, none⟩) (by omega) _).setCell (p := ⟨Bl, 0, none⟩) (by omega) _⟩
    · exact (Below.heap_setCell _ _ _ k e1).trans ((Below.heap_setCell _ _ _ k e2).trans (hlow k hk))
    · exact (Below.heap_setCell _ _ _ k (by simp; omega)).trans (Below.heap_setCell _ _ _ k (by simp; omega))

theorem read_boxes {W w2 w3 : World} {Bl Bg base n : Nat} {v g : Value} {vs : List Value} {tl tg e : TypeId} {tmp : Obj} (hv : Boxed W Bl tl v) (hg : Boxed W Bg tg g) (hl : Bl < base) (hgb : Bg < base) (hbase : base ≤ W.heap.size)
    (h1 : W.ownsRow base e 1 v n vs) (hb2 : Below W.heap.size W w2) (hgr : (w2.alloc tmp).grownBy w3 v.ownBlock) : Boxed w3 Bl tl v ∧ Boxed w3 Bg tg g := by
  have hsz : W.heap.size ≤ w2.heap.size := hb2.size
  have hob : ∀ j, v.ownBlock = some j → base ≤ j := by
    intro j ej
    rcases h1.2 with ⟨rfl, _⟩ | ⟨q, cap, cur, rfl, hbq, _⟩
    · simp [Value.ownBlock] at ej
    · obtain rfl : q = j := by simpa [Value.ownBlock] using ej
      exact hbq
  have hlow : ∀ k, k < base → w3.heap[k]? = W.heap[k]? := fun k hk => (hgr.block k (by simp; omega) (fun e => by have := hob k e.symm; omega)).trans ((Below.heap_alloc w2 tmp k (by omega)).trans (hb2.block k (by omega)))
  exact ⟨(hlow Bl hl).trans hv, (hlow Bg hgb).trans hg⟩

/-- append onto a slice of the call's own, as a step within a round. -/
theorem uponIn_append_own {F : Fence} {n : Nat} {P : Program} {o : Oper} {a : Act} {K : Act → World → Prop} {Q : Exit → Act → World → Prop} {L : Nat} {w : World} (s x : Operand) (t : TypeId)
    (ho : o.op = .call { callee := .builtin .append, args := #[s, x], argTypes := #[t, t] }) (base : Nat) (e : TypeId) (i : TypeInfo) (z : Value) (size bytes : Nat) (ht : P.underlying t = some (.slice e)) (hi : P.info? e = some i) (hz : i.zero = some z)
    (hsize : i.size = size) (hby : i.bytes = bytes) (hzs : z.cells.size = size) (hsz : 0 < size) (v : Value) (k : Nat) (xs : List Value) (hs : a.eval s = v) (hown : w.ownsRow base e size v k xs)
    (ad : Addr) (m c : Nat) (news : List Value) (hx : a.eval x = .slice (some ad) m c) (hl : news.length = m * size) (hnews : ∀ j u, news[j]? = some u → w.cell? (ad.add j) = some u) (h1 : ∀ u ∈ news, u.oneCell' = true)
    (h63 : k + m ≤ maxLen) (hbytes : (k + m) * bytes ≤ 140737488355328) (hbase : base ≤ w.heap.size)
    (h : ∀ v' w', w'.ownsRow base e size v' (k + m) (xs ++ news) → w.grownBy w' v.ownBlock → K (a.put o.dst v') w') : Oper.uponIn F n P o a K Q (Sem.run P (Oper.semAt (some L) a.eval o) w) := by
  obtain ⟨v', w', hr, h2, h3, -⟩ := run_append_own (P := P) w base t o.type e i z size bytes ht hi hz hsize hby hzs hsz v k xs hown ad m c news hl hnews h1 h63 hbytes hbase
  rw [Oper.semAt_some L _ _ (by rw [ho]; intro c hc'; cases hc')]
  simp [execOp, ho, resolve, invoke, builtin, hs, hx, hr, Result.andThen]
  exact h _ _ h2 h3

/-- The bytes of a frame. -/
noncomputable def frOf (b : List Int) (x : Fr b) : List Int := (Wm.read b)[x.1]?.getD []
theorem frOf_all (b : List Int) (ys : List (Fr b)) (h : ys.map (·.1) = List.range (Wm.read b).length) : ys.map (frOf b) = Wm.read b := by
  have : ys.map (frOf b) = (ys.map (·.1)).map (fun i => (Wm.read b)[i]?.getD []) := by rw [List.map_map]; rfl
  rw [this, h]
  refine List.ext_getElem (by simp) fun i h1 h2 => ?_
  simp [List.getElem?_eq_getElem h2]
theorem read_len (b : List Int) : (Wm.read b).length ≤ b.length := by
  have h : ∀ j, j ≤ (Wm.read b).length → j ≤ Wm.pos b j := by
    intro j
    induction j with
    | zero => intro _; omega
    | succ j ih => intro hj; have := ih (by omega); have := (Wm.pos_at b j (by omega)).2.2.1; omega
  have h1 := h _ (Nat.le_refl _)
  have h2 := (Wm.pos_end b).1
  have h3 := Wm.good_le b
  omega

theorem results_cell_cell {P : Program} {fn : Func} {p q : Tmp} {t1 t2 : TypeId} (h : fn.results = #[.cell p t1, .cell q t2]) (tmps : Array Value) (w : World) (g1 g2 : Nat) (v1 v2 : Value) (e1 e2 : TypeId) (d1 d2 : TypeDesc)
    (hp : tmps.getD p undef = .pointer (some ⟨g1, 0, none⟩)) (hq : tmps.getD q undef = .pointer (some ⟨g2, 0, none⟩)) (hg1 : Boxed w g1 e1 v1) (hg2 : Boxed w g2 e2 v2)
    (hd1 : (match d1 with | .struct _ | .array _ _ => true | _ => false) = false) (hd2 : (match d2 with | .struct _ | .array _ _ => true | _ => false) = false) (hu1 : P.underlying t1 = some d1) (hu2 : P.underlying t2 = some d2) :
    (results fn tmps).run P w = .ok (.tuple #[v1, v2]) w := by
  have hp' : tmps[p]?.getD undef = .pointer (some ⟨g1, 0, none⟩) := by simpa using hp
  have hq' : tmps[q]?.getD undef = .pointer (some ⟨g2, 0, none⟩) := by simpa using hq
  have one : ∀ (t : TypeId) (d : TypeDesc) (g : Nat) (v : Value) (e : TypeId), (match d with | .struct _ | .array _ _ => true | _ => false) = false → P.underlying t = some d → Boxed w g e v → (loadVar t ⟨g, 0, none⟩).run P w = .ok v w := by
    intro t d g v e hd hu hb
    have hagg : (isAgg t).run P w = .ok false w := by
      unfold isAgg
      rw [Sem.run_bind, run_underlying hu w]
      cases d <;> simp_all
    have hc := hb.cell
    simp [loadVar, Sem.run_bind, hagg]
    simp [hc]
  simp [results, h, hp', hq', asAddr, one _ _ _ _ _ hd1 hu1 hg1, one _ _ _ _ _ hd2 hu2 hg2]

theorem holds_putObj {W : World} {base D : Nat} {v : Value} {ls : List (List Int)} (o' : Obj) (hD : W.heap[D]? = some (.deferred (some []))) (h : HoldsRws W base v ls) : HoldsRws (W.drew.putObj D o') base v ls :=
  HoldsRws.own (f := fun (_ : Unit) => ls) () W.drew _ (some D) h (grownBy_putObj' W.drew D o') (fun r e => by cases e; exact ⟨_, hD, rfl⟩)
theorem read_byte {w : World} {v : Value} {b : List Int} (h : Row .u8 w v b) : ∀ l ∈ Wm.read b, ∀ x ∈ l, byte x := by
  intro l hl x hx
  obtain ⟨j, hj, rfl⟩ := List.mem_iff_getElem.1 hl
  have h1 := (Wm.pos_at b j hj).2.1
  rw [List.getElem?_eq_getElem hj] at h1
  simp only [Option.getD_some] at h1
  rw [h1] at hx
  exact h.all_byte x (List.mem_of_mem_drop (List.mem_of_mem_take hx))
/-- The end of Read, on the worlds alone. -/
theorem read_end {w W W2 : World} {n Bl Bg base D : Nat} {v g : Value} {ls : List (List Int)} {tl tg : TypeId} (hv : Boxed W Bl tl v) (hg : Boxed W Bg tg g) (hh : HoldsRws W base v ls) (hne : Bl ≠ Bg) (hl : Bl < base) (hgb : Bg < base) (hn : n ≤ Bl) (hn' : n ≤ Bg)
    (hK : W.heap[D]? = some (.deferred (some []))) (hB : Below n w W) (hX : W2 = (W.setCell ⟨Bl, 0, none⟩ v).setCell ⟨Bg, 0, none⟩ g ∨ W2 = (W.setCell ⟨Bg, 0, none⟩ g).setCell ⟨Bl, 0, none⟩ v) :
    Boxed W2 Bl tl v ∧ Boxed W2 Bg tg g ∧ HoldsRws W2 base v ls ∧ W2.heap[D]? = some (.deferred (some [])) ∧ Below n w W2 := by
  have hs : ∀ k, base ≤ k → W2.heap[k]? = W.heap[k]? := by
    intro k hk
    rcases hX with rfl | rfl <;> exact (Below.heap_setCell _ _ _ k (by simp; omega)).trans (Below.heap_setCell _ _ _ k (by simp; omega))
  refine ⟨?_, ?_, hh.same fun k hk _ => hs k hk, ?_, ?_⟩
  · rcases hX with rfl | rfl
    · exact (hv.set _).other hne _
    · exact (hv.other hne _).set _
  · rcases hX with rfl | rfl
    · exact (hg.other hne.symm _).set _
    · exact (hg.set _).other hne.symm _
  · rcases hX with rfl | rfl <;> exact ((KeepsOthers.setCell W _ _).trans (KeepsOthers.setCell _ _ _)).same D _ hK rfl
  · rcases hX with rfl | rfl
    · exact (hB.setCell (p := ⟨Bl, 0, none⟩) (by omega) _).setCell (p := ⟨Bg, 0, none⟩) (by omega) _
    · exact (hB.setCell (p := ⟨Bg, 0, none⟩) (by omega) _).setCell (p := ⟨Bl, 0, none⟩) (by omega) _

set_option maxRecDepth 100000 in
set_option maxHeartbeats 2000000 in
theorem Read_any (v1 v2 : Value) (S O : List Int) (w : World) (h1 : Row .u8 w v1 S) (h2 : Row .u8 w v2 O) (n1 : S.length ≤ 40000) (n2 : O.length ≤ 40000) :
    Calls Try.prog 14 #[.agg #[v1, v2]] w fun e w' => ∃ r, e = .returned (.tuple #[r, .int .i64 (Wm.good (S ++ O) : Nat)]) ∧ Rws .u8 w' r (Wm.read (S ++ O)) ∧ Below w.heap.size w w' := by
  have H1 := Lib.hid h1; have H2 := Lib.hid h2
  obtain ⟨a1, c1, rfl, -⟩ := h1
  obtain ⟨a2, c2, rfl, -⟩ := h2
  obtain ⟨b, hb⟩ : ∃ b, S ++ O = b := ⟨_, rfl⟩
  have HB := Lib.hid hb
  have hbl : b.length = S.length + O.length := by rw [← hb, List.length_append]
  have HBl := Lib.hid hbl
  rw [hb]
  clear hb hbl
  obtain ⟨i0, hi, hz0, hz1, hz2⟩ := info_parts info_row
  refine (callsIn_wide (n := 6)).1 ?_
  refine callsIn_of_wp_marks Try.func14 rfl trivial ?_ rfl
  simp only [Try.ntmps14, List.size_toArray, List.length_cons, List.length_nil, Nat.reduceAdd, Nat.reduceSub, Array.replicate_succ, Array.replicate_zero, List.push_toArray, List.append_toArray, List.nil_append, List.cons_append]
  gi_wp2_with (first
    | (refine ⟨trivial, ?_⟩; gi_at_call 22; refine (callsIn_wide.2 (all_of _ _ S O b _ (by exact ((H1.out.alloc _).alloc _).alloc _) (by exact ((H2.out.alloc _).alloc _).alloc _) (by omega) (by omega) HB.out)).mono ?_; rintro e w1 ⟨ar, cr, rfl, hrow, hfar, hb1⟩; have HRow := Lib.hid hrow; have HFar := Lib.hid hfar; clear hrow hfar)
    | (refine ⟨trivial, ?_⟩; gi_at_call 24; refine (frames_in _ _ _ _ _).mono ?_; rintro e w' ⟨rfl, rfl⟩))
  obtain ⟨Bd, off, hbo, hBd⟩ : ∃ Bd off, (b.length ≠ 0 → ar = some ⟨Bd, off, none⟩) ∧ Bd < w1.heap.size := by
    by_cases hne : b = []
    · exact ⟨w.heap.size, 0, fun h => absurd (by rw [hne]; rfl) h, by have := hb1.size; simp at this; omega⟩
    · obtain ⟨_, _, e, _, _, _, _, hr⟩ := HRow.out
      cases e
      obtain ⟨Bd, off, e, hb, _⟩ := hr hne
      exact ⟨Bd, off, fun _ => e, hb⟩
  have hBdn : b.length ≠ 0 → w.heap.size + 3 ≤ Bd := fun h => by have := HFar.out Bd off (hbo h); simp at this; omega
  have HBd := Lib.hid hBdn
  have hsz1 : w.heap.size + 3 ≤ w1.heap.size := by have := hb1.size; simp at this; omega
  have hB1 : Below w.heap.size w w1 := ((((Below.refl _ w).alloc (Nat.le_refl _) (.cells #[.slice a1 S.length c1, .slice a2 O.length c2] 24)).alloc (by simp) (.cells #[.slice none 0 0] 35)).alloc (by simp <;> omega) (.cells #[.int .i64 0] 3)).trans (hb1.mono (by simp <;> omega))
  have bL : Boxed w1 (w.heap.size + 1) 35 (.slice none 0 0) := by
    refine (hb1.block _ (by simp <;> omega)).trans ?_
    have h := Boxed.new (w.alloc (.cells #[.slice a1 S.length c1, .slice a2 O.length c2] 24)) 35 (.slice none 0 0)
    rw [World.size_alloc] at h
    exact h.alloc _
  have bG : Boxed w1 (w.heap.size + 1 + 1) 3 (.int .i64 0) := by
    refine (hb1.block _ (by simp <;> omega)).trans ?_
    have h := Boxed.new ((w.alloc (.cells #[.slice a1 S.length c1, .slice a2 O.length c2] 24)).alloc (.cells #[.slice none 0 0] 35)) 3 (.int .i64 0)
    simp only [World.size_alloc] at h
    exact h
  have HB1 := Lib.hid hB1; have Hbo := Lib.hid hbo
  clear hB1 hbo hb1
  have bF := Boxed.new w1 22 (.slice ar b.length cr)
  refine wpIn_rangeFunc_ownG rfl (by omega) (gf := 30) (lb := #[.pointer (some ⟨w1.heap.size, 0, none⟩)]) rfl trivial (enters_of Try.func30 (by kernel_rfl) rfl)
    (frames_stops _ (by omega) w1.heap.size Bd off cr ar b _ (by rw [HBl.out]; omega) Hbo.out bF (HRow.out.alloc _)) KeepsBs.trans (KeepsBs.b (by simp) (by simp; omega)) (Below.refl _ _) (fun _ => rfl)
    (fun pre W => (∃ v, Boxed W (w.heap.size + 1) 35 v ∧ HoldsRws W (w1.heap.size + 1) v (pre.map (frOf b))) ∧ Boxed W (w.heap.size + 1 + 1) 3 (.int .i64 (gval b pre : Nat)) ∧ Boxed W w1.heap.size 22 (.slice ar b.length cr) ∧ Row .u8 W (.slice ar b.length cr) b ∧ Below w.heap.size w W)
    (fun _ _ _ => False)
    (OwnFrom.and (Own.from (fun pre A B row ⟨v, h1, h2⟩ hg hr => ⟨v, boxed_own _ _ (fun _ : Unit => v) () A B row h1 hg hr, HoldsRws.own (f := fun pre => pre.map (frOf b)) pre A B row h2 hg hr⟩) _) (OwnFrom.and (Own.from (boxed_own (w.heap.size + 1 + 1) 3 (fun pre => .int .i64 (gval b pre : Nat))) _)
      (OwnFrom.and (Own.from (boxed_own w1.heap.size 22 (fun _ => .slice ar b.length cr)) _) (OwnFrom.and (Own.from row_own _) (ownFrom_below (Nat.le_refl _) (by simp; omega))))))
    (fun _ _ _ _ _ hs _ _ => hs)
    ⟨⟨_, bL.alloc _, [], World.ownsRow_nil _ _ _ _, fun i hi => absurd hi (Nat.not_lt_zero _)⟩, bG.alloc _, bF, HRow.out.alloc _, HB1.out.alloc (by omega) _⟩
    (fun x => { tmps := #[.agg #[.slice a1 S.length c1, .slice a2 O.length c2], .pointer (some ⟨w.heap.size, 0, none⟩), .pointer (some ⟨w.heap.size + 1, 0, none⟩), .pointer (some ⟨w.heap.size + 1 + 1, 0, none⟩), .slice (some ⟨Bd, off + Wm.pos b x.1 + 4, none⟩) (Wm.long (b.drop (Wm.pos b x.1))) (cr - (Wm.pos b x.1 + 4)), .int .i64 (Wm.pos b (x.1 + 1) : Nat),
      .agg #[.slice a1 S.length c1, .slice a2 O.length c2], .slice ar b.length cr, .func (.func 30) #[] #[.pointer (some ⟨w1.heap.size, 0, none⟩)], .slice (some ⟨Bd, off + Wm.pos b x.1 + 4, none⟩) (Wm.long (b.drop (Wm.pos b x.1))) (cr - (Wm.pos b x.1 + 4)), .int .i64 (Wm.pos b (x.1 + 1) : Nat),
      undef, undef, undef, undef, undef, undef, undef, undef], defers := [] }) ?assign ?body ?done ?stop
  case assign =>
    intro L p W K hK
    unfold frEnc
    gi_wp2_with (rw [Oper.semAt_some _ _ _ (by intro c h; cases h)]; go_simp)
    exact hK
  case body =>
    rintro L pre x W ⟨⟨v, hv, vs, hv1, hv2⟩, hg, hf, hrow, hB⟩ hpl
    obtain ⟨ls, hls⟩ : ∃ ls, pre.map (frOf b) = ls := ⟨_, rfl⟩
    have hll : ls.length = pre.length := by rw [← hls]; simp
    rw [hls] at hv1 hv2
    have hrl := read_len b
    have hbm : b.length ≤ 80000 := by rw [HBl.out]; omega
    obtain ⟨-, p2, p3, p4⟩ := Wm.pos_at b x.1 x.2
    obtain rfl := Hbo.out (by omega)
    have hx : Row .u8 W (.slice (some ⟨Bd, off + Wm.pos b x.1 + 4, none⟩) (Wm.long (b.drop (Wm.pos b x.1))) (cr - (Wm.pos b x.1 + 4))) (frOf b x) := by
      unfold frOf
      rw [p2, Nat.add_assoc]
      exact (hrow.drop (Wm.pos b x.1 + 4) (by omega)).take _ (by simp; omega)
    have hxl : (frOf b x).length ≤ 80000 := by unfold frOf; rw [p2]; simp; omega
    obtain ⟨fx, hfx⟩ : ∃ fx, frOf b x = fx := ⟨_, rfl⟩
    rw [hfx] at hx hxl
    have hvc := hv.cell
    have hWs : w1.heap.size + 1 ≤ W.heap.size := hf.lt
    have Hhyp := Lib.hid hx
    have Hrow := Lib.hid hrow
    have hbd3 := HBd.out (by omega)
    clear hrow p2 p3 p4 hx
    gi_wp2_with fail
    gi_region_with (first
      | (refine uponIn_append_own (.tmp 11) (.tmp 14) 35 rfl (w1.heap.size + 1) 22 i0 (.slice none 0 0) 1 24 rfl hi hz0 hz1 hz2 rfl (by omega) v ls.length vs rfl (by exact (owns_below hv1 hb2).alloc _) ⟨w2.heap.size, 0, none⟩ 1 1 [.slice ra rn rc] rfl rfl (cell_one_new _ _ _) (by intro u hu; rw [List.mem_singleton.1 hu]; rfl) (by simp [maxLen]; omega) (by omega) (by simp; have := hb2.size; omega) ?_; rintro v' w3 hown3 hgrow; obtain ⟨va', vn', vc', rfl⟩ := owns_slice hown3; obtain ⟨kl, kg⟩ := read_boxes hv hg (by omega) (by omega) hWs hv1 hb2 hgrow; have kl1 := kl.cell; have kl2 := kl.frozen; have kg1 := kg.cell; have kg2 := kg.frozen; clear kl kg hv2c hv2a)
      | (rw [Oper.semAt_some _ _ _ (by intro c h; cases h)]; go_simp)
      | (refine ⟨trivial, ?_⟩; gi_at_call 17; refine (CallsIn.inRound L (callsIn_wide.2 (BClone_any _ fx W.drew (by exact Hhyp.out) (by omega)))).mono ?_; rintro e w2 ⟨r, rfl, hr2, hbd⟩; obtain ⟨ra, rn, rc, rfl⟩ := owns_slice hr2; have hb2 : Below W.heap.size W w2 := below_undrew hbd; have hv2c := hb2.cell (p := ⟨w.heap.size + 1, 0, none⟩) hv.lt; rw [hvc] at hv2c; have hv2a := fun o => (World.cell?_alloc_lt w2 o ⟨w.heap.size + 1, 0, none⟩ (Nat.lt_of_lt_of_le hv.lt hb2.size)).trans hv2c))
    all_goals
      gi_wp2_with fail
      obtain ⟨q1, q2, q3, q4, q5, q6⟩ := read_step hv hg (by omega) (by omega) (by omega) hWs (Nat.le_succ w.heap.size) (by omega) hv1 hv2 hb2 (owns_base hr2 hWs) hown3 hgrow (by first | exact .inl rfl | exact .inr rfl)
      have kb : KeepsBs w1.heap.size Bd W _ := ⟨q1.size, q2 w1.heap.size (by omega) (by omega) (by omega), q2 Bd (by omega) (by omega) (by omega)⟩
      refine ⟨q1.from _, kb, ⟨_, q3, ?_⟩, ?_, (q2 w1.heap.size (by omega) (by omega) (by omega)).trans hf, kb.row Hrow.out, hB.trans (q6.mono (Nat.le_refl _))⟩
      · rw [List.map_append, hls, List.map_cons, List.map_nil, hfx]; exact q5
      · rw [gval_snoc]; exact q4
  case done =>
    rintro D ys W hD hys ⟨⟨v, hv, hh⟩, hg, hf, hrow, hB⟩ hK
    rw [gval_all b ys hys] at hg
    rw [frOf_all b ys hys] at hh
    have hc := hg.cell
    have hvc := hv.cell
    obtain ⟨va, vn, vc, rfl⟩ : ∃ a n c, v = .slice a n c := by obtain ⟨vs, h, -⟩ := hh; exact owns_slice h
    have hz := hg.frozen
    have hvz := hv.frozen
    gi_wp2_with fail
    refine wpIn_wide.2 ?_
    go_region
    all_goals
      gi_wp2_with fail
      have hDs : w.heap.size + 2 < D := by simp at hD; omega
      have E := fun (W2 : World) (hX : W2 = (W.setCell ⟨w.heap.size + 1, 0, none⟩ (.slice va vn vc)).setCell ⟨w.heap.size + 1 + 1, 0, none⟩ (.int .i64 (Wm.good b : Nat)) ∨ W2 = (W.setCell ⟨w.heap.size + 1 + 1, 0, none⟩ (.int .i64 (Wm.good b : Nat))).setCell ⟨w.heap.size + 1, 0, none⟩ (.slice va vn vc)) =>
        read_end hv hg hh (by omega) (by omega) (by omega) (Nat.le_succ w.heap.size) (by omega) hK hB hX
      refine ⟨by simp, .inl ⟨_, _, rfl, run_takeDeferred (b := D) (by first | exact (E _ (.inl rfl)).2.2.2.1 | exact (E _ (.inr rfl)).2.2.2.1), ?_⟩⟩
      refine ⟨_, results_cell_cell rfl _ _ (w.heap.size + 1) (w.heap.size + 1 + 1) (.slice va vn vc) (.int .i64 (Wm.good b : Nat)) 35 3 _ _ rfl rfl
        (by first | exact (World.putObj_heap_other (by omega)).trans (E _ (.inl rfl)).1 | exact (World.putObj_heap_other (by omega)).trans (E _ (.inr rfl)).1)
        (by first | exact (World.putObj_heap_other (by omega)).trans (E _ (.inl rfl)).2.1 | exact (World.putObj_heap_other (by omega)).trans (E _ (.inr rfl)).2.1) (by rfl) (by rfl) rfl rfl, .slice va vn vc, rfl, ?_, ?_⟩
      · first | exact (holds_putObj _ (E _ (.inl rfl)).2.2.2.1 (E _ (.inl rfl)).2.2.1).rws (read_byte hrow) | exact (holds_putObj _ (E _ (.inr rfl)).2.2.2.1 (E _ (.inr rfl)).2.2.1).rws (read_byte hrow)
      · first | exact (E _ (.inl rfl)).2.2.2.2.drew.trans (belowK_b (w := w) (Nat.le_refl _) _ D _ _ (by omega) (by exact (E _ (.inl rfl)).2.2.2.1) rfl rfl) | exact (E _ (.inr rfl)).2.2.2.2.drew.trans (belowK_b (w := w) (Nat.le_refl _) _ D _ _ (by omega) (by exact (E _ (.inr rfl)).2.2.2.1) rfl rfl)
  case stop =>
    rintro D c pre W _ _ h _
    exact h.elim
end Go.Proofs.Ytiijlakilogekaa
