/-
  Plain facts on boxes, rows, own slices, bytes: the common stock; it names no function of the program.
-/
import Derived.Test.YtlaidjgdipacgaaGreatDoorDu
import Derived.Test.YtlaidjgdipacgaaGreatDoorRows
import Derived.Test.YtlaidjgdipacgaaGreatDoorRw
import Derived.Test.YtlaidjgdipacgaaGreatDoorFo
import Derived.Laws.BytesArg
import Derived.Shelf.Bytes.SlSmallAll
import Derived.Lib.Bytes
import Derived.Laws.AppendOwnNone
import Derived.Maps.AppendAt
import Derived.Lib.AppendStr
namespace Go.Proofs.YtlaidjgdipacgaaGreatDoor
open Go.RowKit

theorem info_u8 : (Tryz.prog.info? 5).map (fun i => (i.zero, i.size, i.bytes)) = some (some (.int .u8 0), 1, 1) := by kernel_rfl

/-- 'string(b)'. -/
theorem Row.convert {w : World} {v : Value} {l : List Int} (h : Row .u8 w v l) : (Go.convert 22 9 v).run Tryz.prog w = .ok (.string (strOfNums l)) w := by
  obtain ⟨a, cap, rfl, hl, hc, h0, hw, hr⟩ := h
  by_cases hne : l = []
  · subst hne
    exact run_convert_bytes_zero w _ _ Tryz.underlying22 Tryz.underlying5 a cap _ Tryz.underlying9
  · obtain ⟨b, off, rfl, hb, hx⟩ := hr hne
    exact run_convert_bytes_arg w _ _ Tryz.underlying22 Tryz.underlying5 b off l.length cap l rfl (fun i hi => by rw [hx i hi]; simp [List.getD]) _ Tryz.underlying9

theorem ofNat_inj {x y : Int} (hx : byte x) (hy : byte y) (h : UInt8.ofNat x.toNat = UInt8.ofNat y.toNat) : x = y := by
  have := congrArg UInt8.toNat h
  rw [UInt8.toNat_ofNat', UInt8.toNat_ofNat'] at this
  unfold byte at hx hy; omega
theorem strOf_inj : ∀ {l m : List Int}, (∀ x ∈ l, byte x) → (∀ x ∈ m, byte x) → Lib.bytesOf l = Lib.bytesOf m → l = m
  | [], [], _, _, _ => rfl
  | [], y :: m, _, _, h => by simp [Lib.bytesOf] at h
  | x :: l, [], _, _, h => by simp [Lib.bytesOf] at h
  | x :: l, y :: m, hl, hm, h => by
    simp only [Lib.bytesOf, List.map_cons, List.cons.injEq] at h
    rw [ofNat_inj (hl x (by simp)) (hm y (by simp)) h.1, strOf_inj (fun z hz => hl z (by simp [hz])) (fun z hz => hm z (by simp [hz])) h.2]
theorem Row.all_byte {w : World} {v : Value} {l : List Int} (h : Row .u8 w v l) : ∀ x ∈ l, byte x := by
  obtain ⟨_, _, _, _, _, _, hw, _⟩ := h
  exact fun x hx => byte_wf (hw x hx)
theorem byte_wf_of {x : Int} (h : byte x) : (Lit.int .u8 x).wf = true := by
  unfold byte at h
  simp [Lit.wf, IntKind.min, IntKind.max, IntKind.bits, IntKind.signed]; omega
/-- Strings of bytes are the same just if the bytes are. -/
theorem str_eq {l m : List Int} (hl : ∀ x ∈ l, byte x) (hm : ∀ x ∈ m, byte x) : ((strOfNums l).toList == (strOfNums m).toList) = decide (l = m) := by
  rw [Lib.strOfNums_toList, Lib.strOfNums_toList, Bool.eq_iff_iff]
  simp only [beq_iff_eq, decide_eq_true_eq]
  exact ⟨strOf_inj hl hm, fun h => by rw [h]⟩
theorem info_i64 : (Tryz.prog.info? 3).map (fun i => (i.zero, i.size, i.bytes)) = some (some (.int .i64 0), 1, 8) := by kernel_rfl

theorem Row.owned64 {w : World} {base : Nat} {v : Value} {l : List Int} (h : w.ownsRow base 3 1 v l.length (l.map (Value.int .i64))) (hl : ∀ x ∈ l, (Lit.int .i64 x).wf = true) : Row .i64 w v l := Row.of_owns h hl
theorem Row.wf {k : IntKind} {w : World} {v : Value} {l : List Int} (h : Row k w v l) : ∀ x ∈ l, (Lit.int k x).wf = true := by
  obtain ⟨_, _, _, _, _, _, hw, _⟩ := h
  exact hw

theorem Row.of_bytes {w : World} {base : Nat} {v : Value} {l : List Int} (h : w.ownsRow base 5 1 v l.length (l.map (Value.int .u8))) (hb : ∀ x ∈ l, byte x) : Row .u8 w v l :=
  Row.of_owns h fun x hx => byte_wf_of (hb x hx)
/-- A step of the walk by a call: what lay there lies. -/
def Stp (w w' : World) : Prop := Below w.heap.size w w'
theorem Row.stp {k : IntKind} {w w' : World} {v : Value} {l : List Int} (h : Row k w v l) (s : Stp w w') : Row k w' v l := h.below s
theorem bel_stp {w X X' : World} (h : Below w.heap.size w X) (s : Stp X X') : Below w.heap.size w X' := h.trans (s.mono h.size)
theorem bel_alloc {w X : World} (h : Below w.heap.size w X) (o : Obj) : Below w.heap.size w (X.alloc o) := h.alloc h.size o
theorem bel_set {w X : World} (h : Below w.heap.size w X) {p : Addr} (hp : w.heap.size ≤ p.block) (u : Value) : Below w.heap.size w (X.setCell p u) := h.setCell hp u
theorem bel_drew {w X : World} (h : Below w.heap.size w X) : Below w.heap.size w X.drew := h.drew
/-- A slice whose memory, if it has any, lies at n or beyond. -/
def Past (n : Nat) (v : Value) : Prop := ∀ b o l c, v = .slice (some ⟨b, o, none⟩) l c → n ≤ b
theorem Duo.new' (W : World) (t : TypeId) (x y : Value) (g : Nat) (hg : g = W.heap.size) : Duo (W.alloc (.cells #[x, y] t)) g t x y := by subst hg; exact Duo.new W t x y
theorem Rws.stp {k : IntKind} {w w' : World} {v : Value} {ls : List (List Int)} (h : Rws k w v ls) (s : Stp w w') : Rws k w' v ls := h.below s
theorem Duo.stp {w w' : World} {B : Nat} {t : TypeId} {x y : Value} (h : Duo w B t x y) (s : Stp w w') : Duo w' B t x y := h.kept s h.lt
theorem Row.shape {k : IntKind} {w : World} {v : Value} {l : List Int} (h : Row k w v l) (n : Nat) (hn : l.length = n) : ∃ a c, v = .slice a n c := by
  obtain ⟨a, c, e, -⟩ := h
  exact ⟨a, c, by rw [e, hn]⟩
/-- A slice that has bytes does not lie in the block g. -/
def Off (g : Nat) (v : Value) : Prop := ∀ b o l c, v = .slice (some ⟨b, o, none⟩) l c → 0 < l → b ≠ g
/-- A store elsewhere leaves a row as it was. -/
theorem Row.aside {k : IntKind} {w : World} {v : Value} {l : List Int} (h : Row k w v l) {p : Addr} (hp : Off p.block v) (u : Value) : Row k (w.setCell p u) v l := by
  obtain ⟨a, cap, h1, h2, h3, h0, h4, h5⟩ := h
  refine ⟨a, cap, h1, h2, h3, h0, h4, fun hne => ?_⟩
  obtain ⟨b, off, e, hlt, hc⟩ := h5 hne
  subst e
  exact ⟨b, off, rfl, by simpa using hlt, fun i hi => (World.cell?_setCell_other w p ⟨b, off + i, none⟩ u (fun e => hp _ _ _ _ h1 (by omega) (by subst e; rfl))).trans (hc i hi)⟩
theorem Duo.drew {W : World} {B : Nat} {t : TypeId} {x y : Value} (h : Duo W B t x y) : Duo W.drew B t x y := h
theorem own_type_ne {W : World} {b1 b2 s1 s2 n1 n2 : Nat} {e1 e2 : TypeId} {v1 v2 : Value} {x1 x2 : List Value} (h1 : W.ownsRow b1 e1 s1 v1 n1 x1) (h2 : W.ownsRow b2 e2 s2 v2 n2 x2) (hne : e1 ≠ e2) : v1.ownBlock = none ∨ v1.ownBlock ≠ v2.ownBlock := by
  rcases h1.2 with ⟨rfl, _⟩ | ⟨g, cap, cur, rfl, _, hh, _⟩
  · exact .inl rfl
  · refine .inr fun e => ?_
    rcases h2.2 with ⟨rfl, _⟩ | ⟨g', cap', cur', rfl, _, hh', _⟩
    · simp [Value.ownBlock] at e
    · simp [Value.ownBlock] at e
      subst e
      rw [hh] at hh'
      injection hh' with hh'
      injection hh' with _ ht
      exact hne ht
theorem owns_slice {w : World} {base : Nat} {e : TypeId} {size n : Nat} {v : Value} {xs : List Value} (h : w.ownsRow base e size v n xs) : ∃ a n c, v = .slice a n c := by
  rcases h.2 with ⟨rfl, _⟩ | ⟨g, cap, cur, rfl, _⟩ <;> exact ⟨_, _, _, rfl⟩
theorem owns_row {w : World} {base : Nat} {v : Value} {l : List Int} (h : w.ownsRow base 5 1 v l.length (l.map (Value.int .u8))) (hl : ∀ x ∈ l, byte x) : Row .u8 w v l := Row.of_bytes h hl
theorem owns_low {w : World} {base b : Nat} {e : TypeId} {v : Value} {n : Nat} {xs : List Value} (h : w.ownsRow base e 1 v n xs) (hb : b ≤ base) : w.ownsRow b e 1 v n xs := owns_base h hb
theorem Rws.shape {k : IntKind} {w : World} {v : Value} {ls : List (List Int)} (h : Rws k w v ls) : ∃ a c, v = .slice a ls.length c ∧ ls.length ≤ c ∧ c ≤ maxLen := by
  obtain ⟨a, c, V, e, h1, h2, -⟩ := h
  exact ⟨a, c, e, h1, h2⟩
theorem Past.off {n g : Nat} {v : Value} (h : Past n v) (hg : g < n) : Off g v := fun b o l c e _ => by have := h b o l c e; omega
theorem Row.drew {k : IntKind} {w : World} {v : Value} {l : List Int} (h : Row k w v l) : Row k w.drew v l := h
theorem Rws.drew {k : IntKind} {w : World} {v : Value} {l : List (List Int)} (h : Rws k w v l) : Rws k w.drew v l := h
theorem own_other {w w' : World} {base : Nat} {e t : TypeId} {n B : Nat} {v x y : Value} {xs : List Value} (h : w.ownsRow base e 1 v n xs) (hg : w.grownBy w' v.ownBlock) (hd : Duo w B t x y) (hne : t ≠ e) : Duo w' B t x y := by
  refine (hg.block B hd.lt ?_).trans hd
  intro ee
  rcases h.2 with ⟨rfl, _⟩ | ⟨g, cap, cur, rfl, _, hh, _⟩
  · simp [Value.ownBlock] at ee
  · simp [Value.ownBlock] at ee
    subst ee
    rw [show w.heap[B]? = _ from hd] at hh
    injection hh with hh
    injection hh with _ h2
    exact hne h2
theorem wp_append_bytes {P : Program} {w0 w : World} {o : Oper} {a : Act} {K : Act → World → Prop} {Q : Exit → Act → World → Prop} (s x : Operand) (t : TypeId)
    (ho : o.op = .call { callee := .builtin .append, args := #[s, x], argTypes := #[t, t] })
    (e : TypeId) (i : TypeInfo) (z : Value) (ht : P.underlying t = some (.slice e)) (hi : P.info? e = some i) (hz : i.zero = some z)
    (hsize : i.size = 1) (hby : i.bytes = 1) (hzs : z.cells.size = 1) (hb0 : Below w0.heap.size w0 w)
    (v : Value) (ms : List Int) (hs : a.eval s = v) (hown : w.ownsRow w0.heap.size e 1 v ms.length (ms.map (Value.int .u8)))
    (xv : Value) (ls : List Int) (hrow : Row .u8 w0 xv ls) (hx : a.eval x = xv) (h63 : ms.length + ls.length ≤ 10000000)
    (h : ∀ v' w', w'.ownsRow w0.heap.size e 1 v' (ms ++ ls).length ((ms ++ ls).map (Value.int .u8)) → Below w0.heap.size w0 w' → w.heap.size ≤ w'.heap.size → (∀ B t x y, t ≠ e → Duo w B t x y → Duo w' B t x y) → K (a.put o.dst v') w') : o.wp P a w K Q := by
  obtain ⟨ad, cap, rfl, hlc, _, hnc, _, hc⟩ := hrow.below hb0
  cases ad with
  | none =>
    have hl : ls = [] := by
      apply Classical.byContradiction; intro hne
      obtain ⟨b, off, e', _⟩ := hc hne; cases e'
    subst hl
    obtain rfl : cap = 0 := hnc rfl
    have hrun := run_append_owned_none (P := P) (w := w) w0.heap.size t o.type e i 1 ht hi v ms.length _ hown
    unfold Oper.wp
    simp [execOp, ho, resolve, invoke, builtin, hs, hx, hrun, Result.andThen]
    exact h v w (by simpa using hown) hb0 (Nat.le_refl _) fun _ _ _ _ _ hd => hd
  | some ad =>
    refine wp_append_own w s x t ho w0.heap.size e i z 1 1 ht hi hz hsize hby hzs (by decide) v ms.length _ hs hown ad ls.length cap (ls.map (Value.int .u8)) hx (by simp) ?_ ?_ (by unfold maxLen; omega) (by omega) hb0.size ?_
    · intro j u hj
      have hjl : j < ls.length := by
        apply Classical.byContradiction; intro hn
        rw [List.getElem?_eq_none (by simp; omega)] at hj; cases hj
      obtain ⟨b, off, e', hb, hcell⟩ := hc (by rintro rfl; simp at hjl)
      cases e'
      rw [List.getElem?_map, List.getElem?_eq_getElem hjl] at hj
      simp only [Option.map_some, Option.some.injEq] at hj
      rw [addr_add, hcell j hjl, ← hj, List.getElem?_eq_getElem hjl]; rfl
    · intro u hu
      obtain ⟨y, _, rfl⟩ := List.mem_map.1 hu
      rfl
    · intro v' w' h1 h2 _
      exact h v' w' (by rw [List.length_append, List.map_append]; exact h1) (hb0.grown h2 hb0.size fun k e => own_above hown e) h2.size fun _ _ _ _ hne hd => own_other hown h2 hd hne
theorem wp_append_bytes2 {P : Program} {w : World} {o : Oper} {a : Act} {K : Act → World → Prop} {Q : Exit → Act → World → Prop} (s x : Operand) (t : TypeId)
    (ho : o.op = .call { callee := .builtin .append, args := #[s, x], argTypes := #[t, t] })
    (e : TypeId) (i : TypeInfo) (z : Value) (ht : P.underlying t = some (.slice e)) (hi : P.info? e = some i) (hz : i.zero = some z)
    (hsize : i.size = 1) (hby : i.bytes = 1) (hzs : z.cells.size = 1) (base : Nat) (hb0 : base ≤ w.heap.size)
    (v : Value) (ms : List Int) (hs : a.eval s = v) (hown : w.ownsRow base e 1 v ms.length (ms.map (Value.int .u8)))
    (xv : Value) (ls : List Int) (hrow : Row .u8 w xv ls) (hx : a.eval x = xv) (h63 : ms.length + ls.length ≤ 10000000)
    (h : ∀ v' w', w'.ownsRow base e 1 v' (ms ++ ls).length ((ms ++ ls).map (Value.int .u8)) → Below base w w' → w.heap.size ≤ w'.heap.size → (∀ B t x y, t ≠ e → Duo w B t x y → Duo w' B t x y) → K (a.put o.dst v') w') : o.wp P a w K Q := by
  obtain ⟨ad, cap, rfl, hlc, _, hnc, _, hc⟩ := hrow
  cases ad with
  | none =>
    have hl : ls = [] := by
      apply Classical.byContradiction; intro hne
      obtain ⟨b, off, e', _⟩ := hc hne; cases e'
    subst hl
    obtain rfl : cap = 0 := hnc rfl
    have hrun := run_append_owned_none (P := P) (w := w) base t o.type e i 1 ht hi v ms.length _ hown
    unfold Oper.wp
    simp [execOp, ho, resolve, invoke, builtin, hs, hx, hrun, Result.andThen]
    exact h v w (by simpa using hown) (Below.refl _ _) (Nat.le_refl _) fun _ _ _ _ _ hd => hd
  | some ad =>
    refine wp_append_own w s x t ho base e i z 1 1 ht hi hz hsize hby hzs (by decide) v ms.length _ hs hown ad ls.length cap (ls.map (Value.int .u8)) hx (by simp) ?_ ?_ (by unfold maxLen; omega) (by omega) hb0 ?_
    · intro j u hj
      have hjl : j < ls.length := by
        apply Classical.byContradiction; intro hn
        rw [List.getElem?_eq_none (by simp; omega)] at hj; cases hj
      obtain ⟨b, off, e', hb, hcell⟩ := hc (by rintro rfl; simp at hjl)
      cases e'
      rw [List.getElem?_map, List.getElem?_eq_getElem hjl] at hj
      simp only [Option.map_some, Option.some.injEq] at hj
      rw [addr_add, hcell j hjl, ← hj, List.getElem?_eq_getElem hjl]; rfl
    · intro u hu
      obtain ⟨y, _, rfl⟩ := List.mem_map.1 hu
      rfl
    · intro v' w' h1 h2 _
      exact h v' w' (by rw [List.length_append, List.map_append]; exact h1) ((Below.refl base w).grown h2 hb0 fun k e => own_above hown e) h2.size fun _ _ _ _ hne hd => own_other hown h2 hd hne
theorem own_off {w : World} {base : Nat} {e t : TypeId} {n g : Nat} {v x y : Value} {xs : List Value} (h : w.ownsRow base e 1 v n xs) (hd : Duo w g t x y) (hne : t ≠ e) : Off g v := by
  intro b o l c ev _ eg
  subst eg
  rcases h.2 with ⟨rfl, _⟩ | ⟨k, cap, cur, rfl, _, hh, _⟩
  · cases ev
  · injection ev with ev
    injection ev with ev
    injection ev with ev
    subst ev
    rw [show w.heap[k]? = _ from hd] at hh
    injection hh with hh
    injection hh with _ h2
    exact hne h2
theorem owns_empty' (w : World) (base : Nat) (e : TypeId) (g : Nat) (h : base ≤ w.heap.size) (hg : g = w.heap.size) : (w.alloc (.cells #[] e)).ownsRow base e 1 (.slice (some ⟨g, 0, none⟩) 0 0) 0 [] := by
  subst hg; exact owns_empty w base e h
theorem info_byte20 : (Tryz.prog.info? 5).map (fun i => (i.zero, i.size, i.bytes)) = some (some (.int .u8 0), 1, 1) := by kernel_rfl
theorem row_of_owned {w : World} {base : Nat} {v : Value} {l : List Int} (h : w.ownsRow base 5 1 v l.length (l.map (Value.int .u8))) (hl : ∀ x ∈ l, byte x) : ∃ a c, v = .slice a l.length c ∧ Row .u8 w (.slice a l.length c) l ∧ Past base (.slice a l.length c) := by
  have r := Row.of_bytes h hl
  obtain ⟨a, c, e⟩ := r.shape l.length rfl
  subst e
  exact ⟨a, c, rfl, r, fun b o n c' e => own_above h (by rw [e]; rfl)⟩
end Go.Proofs.YtlaidjgdipacgaaGreatDoor
