/-
  Items in memory: a slice of items, an item; opened.
-/
import Derived.Test.YtlaidjgdipacgaaGreatDoorWb
import Derived.Test.YtlaidjgdipacgaaGreatDoorCn
import Derived.Deep.SlicePairs
import Derived.Lib.SmallJoins
import Derived.ChangeArms
namespace Go.Proofs.YtlaidjgdipacgaaGreatDoor
open Go.RowKit Go.ChangeShapes Go.WideShapes Go.Joins

mutual
/-- The item x lies at the cells o, o + 1, o + 2 of the block b. -/
def ItemAt (W : World) (b o : Nat) : Dm.It → Prop
  | .mk t bs l => ∃ vb a c, W.cell? ⟨b, o, none⟩ = some (.int .i64 t) ∧ W.cell? ⟨b, o + 1, none⟩ = some vb ∧ W.cell? ⟨b, o + 2, none⟩ = some (.slice a l.length c) ∧ (Lit.int .i64 t).wf = true ∧ Row .u8 W vb bs ∧
      l.length ≤ c ∧ c ≤ maxLen ∧ (a = none → c = 0) ∧ (l ≠ [] → ∃ b' o', a = some ⟨b', o', none⟩ ∧ b' < W.heap.size ∧ ItemsAt W b' o' l)
/-- Items lie there, one behind the other. -/
def ItemsAt (W : World) (b o : Nat) : List Dm.It → Prop
  | [] => True
  | x :: l => ItemAt W b o x ∧ ItemsAt W b (o + 3) l
end
/-- A slice of items. -/
def ItsV (W : World) (v : Value) (l : List Dm.It) : Prop :=
  ∃ a c, v = .slice a l.length c ∧ l.length ≤ c ∧ c ≤ maxLen ∧ (a = none → c = 0) ∧ (l ≠ [] → ∃ b o, a = some ⟨b, o, none⟩ ∧ b < W.heap.size ∧ ItemsAt W b o l)
/-- An item, by its three values. -/
def ItP (W : World) (vb vl : Value) (x : Dm.It) : Prop := (Lit.int .i64 x.tag).wf = true ∧ Row .u8 W vb x.b ∧ ItsV W vl x.l
/-- The value of an item. -/
def ItV (W : World) (v : Value) (x : Dm.It) : Prop := ∃ vb vl, v = .agg #[.int .i64 x.tag, vb, vl] ∧ ItP W vb vl x

mutual
theorem ItemAt.below {W V : World} (hb : Below W.heap.size W V) : ∀ (x : Dm.It) (b o : Nat), b < W.heap.size → ItemAt W b o x → ItemAt V b o x
  | .mk t bs l, b, o, hlt, h => by
    unfold ItemAt at h ⊢
    obtain ⟨vb, a, c, h0, h1, h2, hw, hr, k1, k2, k3, k4⟩ := h
    refine ⟨vb, a, c, (hb.cell (p := ⟨b, _, none⟩) hlt).trans h0, (hb.cell (p := ⟨b, _, none⟩) hlt).trans h1, (hb.cell (p := ⟨b, _, none⟩) hlt).trans h2, hw, hr.below hb, k1, k2, k3, fun hne => ?_⟩
    obtain ⟨b', o', e, hl', hi⟩ := k4 hne
    exact ⟨b', o', e, Nat.lt_of_lt_of_le hl' hb.size, ItemsAt.below hb l b' o' hl' hi⟩
theorem ItemsAt.below {W V : World} (hb : Below W.heap.size W V) : ∀ (l : List Dm.It) (b o : Nat), b < W.heap.size → ItemsAt W b o l → ItemsAt V b o l
  | [], b, o, _, _ => by unfold ItemsAt; trivial
  | x :: l, b, o, hlt, h => by
    unfold ItemsAt at h ⊢
    exact ⟨ItemAt.below hb x b o hlt h.1, ItemsAt.below hb l b (o + 3) hlt h.2⟩
end
theorem ItemsAt.at_ {W : World} {b : Nat} : ∀ {l : List Dm.It} {o : Nat} (_ : ItemsAt W b o l) (i : Nat) (_ : i < l.length), ItemAt W b (o + i * 3) (l[i]?.getD Dm.no)
  | [], o, _, i, hi => by simp at hi
  | x :: l, o, h, 0, _ => by unfold ItemsAt at h; simpa using h.1
  | x :: l, o, h, i + 1, hi => by
    unfold ItemsAt at h
    have := h.2.at_ i (by simpa using hi)
    rw [show o + (i + 1) * 3 = o + 3 + i * 3 by omega]
    simpa using this
theorem ItemsAt.of_all {W : World} {b : Nat} : ∀ {l : List Dm.It} {o : Nat} (_ : ∀ i, i < l.length → ItemAt W b (o + i * 3) (l[i]?.getD Dm.no)), ItemsAt W b o l
  | [], o, _ => by unfold ItemsAt; trivial
  | x :: l, o, h => by
    unfold ItemsAt
    refine ⟨by simpa using h 0 (by simp), ItemsAt.of_all fun i hi => ?_⟩
    have := h (i + 1) (by simpa using hi)
    rw [show o + (i + 1) * 3 = o + 3 + i * 3 by omega] at this
    simpa using this
theorem ItsV.below {W V : World} {v : Value} {l : List Dm.It} (h : ItsV W v l) (hb : Below W.heap.size W V) : ItsV V v l := by
  obtain ⟨a, c, e, h1, h2, h3, h4⟩ := h
  refine ⟨a, c, e, h1, h2, h3, fun hne => ?_⟩
  obtain ⟨b, o, e2, hlt, hi⟩ := h4 hne
  exact ⟨b, o, e2, Nat.lt_of_lt_of_le hlt hb.size, ItemsAt.below hb l b o hlt hi⟩
theorem ItsV.stp {W V : World} {v : Value} {l : List Dm.It} (h : ItsV W v l) (s : Stp W V) : ItsV V v l := h.below s
theorem ItsV.alloc {W : World} {v : Value} {l : List Dm.It} (h : ItsV W v l) (x : Obj) : ItsV (W.alloc x) v l := h.below ((Below.refl _ W).alloc (Nat.le_refl _) x)
theorem ItsV.drew {W : World} {v : Value} {l : List Dm.It} (h : ItsV W v l) : ItsV W.drew v l := h.below (Below.refl _ W).drew
theorem ItsV.shape {W : World} {v : Value} {l : List Dm.It} (h : ItsV W v l) : ∃ a c, v = .slice a l.length c := by
  obtain ⟨a, c, e, -⟩ := h
  exact ⟨a, c, e⟩
theorem ItsV.nil (W : World) : ItsV W (.slice none 0 0) [] := ⟨none, 0, rfl, Nat.le_refl _, Nat.zero_le _, fun _ => rfl, fun h => absurd rfl h⟩
theorem ItP.below {W V : World} {vb vl : Value} {x : Dm.It} (h : ItP W vb vl x) (hb : Below W.heap.size W V) : ItP V vb vl x := ⟨h.1, h.2.1.below hb, h.2.2.below hb⟩
theorem ItP.stp {W V : World} {vb vl : Value} {x : Dm.It} (h : ItP W vb vl x) (s : Stp W V) : ItP V vb vl x := h.below s
theorem ItP.alloc {W : World} {vb vl : Value} {x : Dm.It} (h : ItP W vb vl x) (o : Obj) : ItP (W.alloc o) vb vl x := h.below ((Below.refl _ W).alloc (Nat.le_refl _) o)
theorem ItP.drew {W : World} {vb vl : Value} {x : Dm.It} (h : ItP W vb vl x) : ItP W.drew vb vl x := h.below (Below.refl _ W).drew
theorem ItP.no (W : World) : ItP W (.slice none 0 0) (.slice none 0 0) Dm.no := ⟨by decide, Row.nil _ _, ItsV.nil _⟩
/-- An item that lies in memory, by its values. -/
theorem ItemAt.vals {W : World} {b o : Nat} {x : Dm.It} (h : ItemAt W b o x) : ∃ ab cb al cl, W.cell? ⟨b, o, none⟩ = some (.int .i64 x.tag) ∧ W.cell? ⟨b, o + 1, none⟩ = some (.slice ab x.b.length cb) ∧ W.cell? ⟨b, o + 2, none⟩ = some (.slice al x.l.length cl) ∧ ItP W (.slice ab x.b.length cb) (.slice al x.l.length cl) x := by
  cases x with
  | mk t bs l =>
    unfold ItemAt at h
    obtain ⟨vb, a, c, h0, h1, h2, hw, hr, k1, k2, k3, k4⟩ := h
    obtain ⟨ab, cb, rfl⟩ := hr.shape bs.length rfl
    exact ⟨ab, cb, a, c, h0, h1, h2, hw, hr, a, c, rfl, k1, k2, k3, k4⟩
theorem ItemAt.of {W : World} {b o : Nat} {x : Dm.It} {vb vl : Value} (h0 : W.cell? ⟨b, o, none⟩ = some (.int .i64 x.tag)) (h1 : W.cell? ⟨b, o + 1, none⟩ = some vb) (h2 : W.cell? ⟨b, o + 2, none⟩ = some vl) (h : ItP W vb vl x) : ItemAt W b o x := by
  cases x with
  | mk t bs l =>
    unfold ItemAt
    obtain ⟨hw, hr, a, c, e, k1, k2, k3, k4⟩ := h
    exact ⟨vb, a, c, h0, h1, by rw [h2, e]; rfl, hw, hr, k1, k2, k3, k4⟩
theorem ItV.parts {W : World} {v : Value} {x : Dm.It} (h : ItV W v x) : ∃ ab cb al cl, v = .agg #[.int .i64 x.tag, .slice ab x.b.length cb, .slice al x.l.length cl] ∧ ItP W (.slice ab x.b.length cb) (.slice al x.l.length cl) x := by
  obtain ⟨vb, vl, e, hp⟩ := h
  obtain ⟨ab, cb, rfl⟩ := hp.2.1.shape x.b.length rfl
  obtain ⟨al, cl, rfl⟩ := hp.2.2.shape
  exact ⟨ab, cb, al, cl, e, hp⟩
/-- The i-th of a slice of items. -/
theorem ItsV.at_ {W : World} {a : Option Addr} {n c : Nat} {l : List Dm.It} (h : ItsV W (.slice a n c) l) (i : Nat) (hi : i < l.length) : ∃ b o ab cb al cl, a = some ⟨b, o, none⟩ ∧ b < W.heap.size ∧
    W.cell? ⟨b, o + i * 3, none⟩ = some (.int .i64 (l[i]?.getD Dm.no).tag) ∧ W.cell? ⟨b, o + i * 3 + 1, none⟩ = some (.slice ab (l[i]?.getD Dm.no).b.length cb) ∧ W.cell? ⟨b, o + i * 3 + 2, none⟩ = some (.slice al (l[i]?.getD Dm.no).l.length cl) ∧
    ItP W (.slice ab (l[i]?.getD Dm.no).b.length cb) (.slice al (l[i]?.getD Dm.no).l.length cl) (l[i]?.getD Dm.no) := by
  obtain ⟨_, _, e, -, -, -, h4⟩ := h
  cases e
  obtain ⟨b, o, rfl, hlt, hi2⟩ := h4 (by rintro rfl; simp at hi)
  obtain ⟨ab, cb, al, cl, k0, k1, k2, k3⟩ := (hi2.at_ i hi).vals
  exact ⟨b, o, ab, cb, al, cl, rfl, hlt, k0, k1, k2, k3⟩

set_option maxRecDepth 100000 in
theorem item_of_trod {H : Type} {enc : TypeId × Value → H} {W : World} {base : Nat} {held : Bool} : ∀ (fuel : Nat) (cs : List Value) (y : DataW H × List MemPlace), DataW.trod enc Tryz.prog W base (fun _ => true) held fuel 47 cs = some y →
    ∃ (x : Dm.It) (vb vl : Value), cs = [.int .i64 x.tag, vb, vl] ∧ ItP W vb vl x := by
  intro fuel
  induction fuel using Nat.strongRecOn with
  | _ fuel ih =>
    intro cs y h
    obtain ⟨xs, n, rfl, _, hcl, hxl, hf⟩ := DataW.trod_struct Tryz.underlying47 h
    have e3 : Tryz.prog.cellsOf 47 = 3 := by kernel_rfl
    rw [e3] at hcl
    match cs, hcl with
    | [v0, v1, v2], _ =>
      have g0 := hf 0 _ rfl
      have g1 := hf 1 _ rfl
      have g2 := hf 2 _ rfl
      have c0 : Tryz.prog.cellsOf 3 = 1 := by kernel_rfl
      have c1 : Tryz.prog.cellsOf 22 = 1 := by kernel_rfl
      have c2 : Tryz.prog.cellsOf 45 = 1 := by kernel_rfl
      match xs, hxl with
      | [x0, x1, x2], _ =>
        have g0' : DataW.trod enc Tryz.prog W base (fun _ => true) held n 3 [v0] = some x0 := by simpa [c0] using g0
        have g1' : DataW.trod enc Tryz.prog W base (fun _ => true) held n 22 [v1] = some x1 := by simpa [c1] using g1
        have g2' : DataW.trod enc Tryz.prog W base (fun _ => true) held n 45 [v2] = some x2 := by simpa [c2] using g2
        obtain ⟨t, et, _, wt⟩ := DataW.trod_int Tryz.underlying3 g0'
        obtain rfl : v0 = .int .i64 t := by simpa using et
        obtain ⟨bs, rb⟩ := row_of_trod Tryz.underlying22 Tryz.underlying5 (by kernel_rfl) g1'
        rcases DataW.trod_slice Tryz.underlying45 g2' with ⟨hcs, _⟩ | ⟨a, len, cap, elems, rest, m, rfl, hcs, _, hb, hl, hm, hlen, hel, _, _⟩
        · obtain rfl : v2 = .slice none 0 0 := by simpa using hcs
          exact ⟨.mk t bs [], v1, _, rfl, wt, rb, ItsV.nil _⟩
        · obtain rfl : v2 = .slice (some a) len cap := by simpa using hcs
          by_cases h0 : len = 0
          · subst h0
            exact ⟨.mk t bs [], v1, _, rfl, wt, rb, some a, cap, rfl, Nat.zero_le _, hm, (fun h => by cases h), fun h => absurd rfl h⟩
          have hs : a.spot = none := by
            have h1 := hel 0 (by omega)
            rw [List.getElem?_eq_getElem (by omega : 0 < elems.length), e3] at h1
            obtain ⟨cs', k1, k2⟩ := Option.bind_eq_some_iff.1 h1
            obtain ⟨x, vb, vl, rfl, hp⟩ := ih m (by omega) cs' _ k2
            obtain ⟨_, _, hcell⟩ := World.cells?_some k1
            have q0 : W.cell? ((a.add (0 * 3)).add 0) = some (.int .i64 x.tag) := hcell 0 (by omega)
            simpa [Addr.add] using World.cell?_spot q0
          obtain ⟨b, o, s⟩ := a
          simp only at hs
          subst hs
          have each : ∀ i, i < len → ∃ q : Dm.It, ItemAt W b (o + i * 3) q := by
            intro i hi
            have h1 := hel i hi
            rw [List.getElem?_eq_getElem (by omega : i < elems.length), e3] at h1
            obtain ⟨cs', k1, k2⟩ := Option.bind_eq_some_iff.1 h1
            obtain ⟨x, vb, vl, rfl, hp⟩ := ih m (by omega) cs' _ k2
            obtain ⟨_, _, hcell⟩ := World.cells?_some k1
            have q0 := hcell 0 (by omega)
            have q1 := hcell 1 (by omega)
            have q2 := hcell 2 (by omega)
            rw [addr_add, addr_add] at q0 q1 q2
            exact ⟨x, ItemAt.of (by simpa using q0) (by simpa using q1) (by simpa using q2) hp⟩
          obtain ⟨q, hq⟩ := Go.Deep.choose_lt each
          have hll : ((List.range len).map q).length = len := by simp
          have hget : ∀ i, i < len → ((List.range len).map q)[i]?.getD Dm.no = q i := fun i hi => by simp [hi]
          refine ⟨.mk t bs ((List.range len).map q), v1, _, rfl, wt, rb, some ⟨b, o, none⟩, cap, by rw [show (Dm.It.mk t bs ((List.range len).map q)).l.length = len from hll], by rw [show (Dm.It.mk t bs ((List.range len).map q)).l.length = len from hll]; exact hl, hm, (fun h => by cases h), fun _ => ⟨b, o, rfl, ?_, ?_⟩⟩
          · obtain ⟨ab, cb, al, cl, z0, -⟩ := (hq 0 (by omega)).vals
            exact World.block_lt_of_cell? W _ z0
          · exact ItemsAt.of_all fun i hi => by
              have hi' : i < len := by rw [← hll]; exact hi
              show ItemAt W b (o + i * 3) (((List.range len).map q)[i]?.getD Dm.no)
              rw [hget i hi']; exact hq i hi'
set_option maxRecDepth 100000 in
theorem item_open {H : Type} {enc : TypeId × Value → H} {W : World} {b0 base : Nat} {v : Value} {d : DataW H} {p : List MemPlace} (hv : Value.okWide Tryz.prog W .any b0 47 v)
    (h : DataW.Trod enc Tryz.prog W base (fun _ => true) true 47 v d p) : ∃ x : Dm.It, ItV W v x := by
  obtain ⟨v0, v1, v2, y0, y1, y2, n, rfl, -, -, -, -, -⟩ := open_agg3 Tryz.underlying47 (by kernel_rfl) (by kernel_rfl) hv h
  obtain ⟨fuel, h⟩ := h
  obtain ⟨x, vb, vl, e, hp⟩ := item_of_trod fuel _ _ h
  simp only [Value.cells] at e
  obtain ⟨rfl, rfl, rfl⟩ : v0 = .int .i64 x.tag ∧ v1 = vb ∧ v2 = vl := by simpa using e
  exact ⟨x, v1, v2, rfl, hp⟩
end Go.Proofs.YtlaidjgdipacgaaGreatDoor
