/-
  An item that came in, opened, and how much there is of it (the second form's bound).
-/
import Derived.Test.YtpmiihmhfagfoaaDoorRows
import Derived.Test.YtpmiihmhfagfoaaDoorDi
namespace Go.Proofs.YtpmiihmhfagfoaaDoor
open Go.RowKit Go.ChangeShapes Go.WideShapes Go.Joins

theorem bulk_one {H : Type} (d : DataW H) : 1 ≤ Rows.uptoBulk d := by
  cases d with
  | lit l => cases l <;> simp [Rows.uptoBulk]
  | nil => simp [Rows.uptoBulk]
  | ptr d => simp [Rows.uptoBulk]
  | slice elems spare => simp [Rows.uptoBulk]
  | agg parts => simp [Rows.uptoBulk]
  | iface t d => simp [Rows.uptoBulk]
  | map entries => simp [Rows.uptoBulk]
  | held h => simp [Rows.uptoBulk]
theorem bulk_len {H : Type} (l : List (DataW H)) : l.length ≤ Rows.uptoBulkAll l := by
  induction l with
  | nil => simp [Rows.uptoBulkAll]
  | cons x r ih => have := bulk_one x; simp only [Rows.uptoBulkAll, List.length_cons]; omega
theorem wts_range {H : Type} : ∀ (ds : List (DataW H)) (q : Nat → Dm.It), (∀ i d, ds[i]? = some d → Dm.wt (q i) ≤ Rows.uptoBulk d) → Dm.wts ((List.range ds.length).map q) ≤ Rows.uptoBulkAll ds
  | [], q, _ => by simp [Dm.wts]
  | d :: ds, q, h => by
    have h0 := h 0 d rfl
    have h1 := wts_range ds (fun i => q (i + 1)) (fun i d' hd => h (i + 1) d' (by simpa using hd))
    rw [List.length_cons, List.range_succ_eq_map, List.map_cons, List.map_map]
    simp only [Dm.wts, Rows.uptoBulkAll]
    have e : (List.range ds.length).map (q ∘ Nat.succ) = (List.range ds.length).map fun i => q (i + 1) := rfl
    rw [e]; omega
theorem bytes_bulk {H : Type} {enc : TypeId × Value → H} {W : World} {base : Nat} {held : Bool} {fuel : Nat} {v : Value} {y : DataW H × List MemPlace} {bs : List Int}
    (h : DataW.trod enc Tryd.prog W base (fun _ => true) held fuel 22 [v] = some y) (hr : Row .u8 W v bs) : bs.length + 1 ≤ Rows.uptoBulk y.1 := by
  obtain ⟨a', c', rfl⟩ := hr.shape bs.length rfl
  rcases DataW.trod_slice Tryd.underlying22 h with ⟨hcs, rfl⟩ | ⟨a, len, cap, elems, rest, m, rfl, hcs, rfl, _, _, _, hlen, _⟩
  · injection hcs with h1 _
    injection h1 with _ h2 _
    have := bulk_one (H := H) .nil
    show bs.length + 1 ≤ Rows.uptoBulk DataW.nil
    omega
  · have e : bs.length = len := by
      injection hcs with h1 _
      injection h1 with _ h2 _
    have := bulk_len (elems.map (·.1))
    simp only [Rows.uptoBulk]
    rw [List.length_map] at this
    omega

set_option maxRecDepth 100000 in
theorem item_of_trod_bulk {H : Type} {enc : TypeId × Value → H} {W : World} {base : Nat} {held : Bool} : ∀ (fuel : Nat) (cs : List Value) (y : DataW H × List MemPlace), DataW.trod enc Tryd.prog W base (fun _ => true) held fuel 25 cs = some y →
    ∃ (x : Dm.It) (vb vl : Value), cs = [.int .i64 x.tag, vb, vl] ∧ ItP W vb vl x ∧ Dm.wt x ≤ Rows.uptoBulk y.1 := by
  intro fuel
  induction fuel using Nat.strongRecOn with
  | _ fuel ih =>
    intro cs y h
    obtain ⟨xs, n, rfl, hy, hcl, hxl, hf⟩ := DataW.trod_struct Tryd.underlying25 h
    have e3 : Tryd.prog.cellsOf 25 = 3 := by kernel_rfl
    rw [e3] at hcl
    match cs, hcl with
    | [v0, v1, v2], _ =>
      have g0 := hf 0 _ rfl
      have g1 := hf 1 _ rfl
      have g2 := hf 2 _ rfl
      have c0 : Tryd.prog.cellsOf 3 = 1 := by kernel_rfl
      have c1 : Tryd.prog.cellsOf 22 = 1 := by kernel_rfl
      have c2 : Tryd.prog.cellsOf 23 = 1 := by kernel_rfl
      match xs, hxl with
      | [x0, x1, x2], _ =>
        have hyb : Rows.uptoBulk y.1 = Rows.uptoBulk x0.1 + (Rows.uptoBulk x1.1 + (Rows.uptoBulk x2.1 + 0)) + 1 := by rw [hy]; simp [Rows.uptoBulk, Rows.uptoBulkAll]
        have b0 := bulk_one x0.1
        have g0' : DataW.trod enc Tryd.prog W base (fun _ => true) held n 3 [v0] = some x0 := by simpa [c0] using g0
        have g1' : DataW.trod enc Tryd.prog W base (fun _ => true) held n 22 [v1] = some x1 := by simpa [c1] using g1
        have g2' : DataW.trod enc Tryd.prog W base (fun _ => true) held n 23 [v2] = some x2 := by simpa [c2] using g2
        obtain ⟨t, et, _, wt⟩ := DataW.trod_int Tryd.underlying3 g0'
        obtain rfl : v0 = .int .i64 t := by simpa using et
        obtain ⟨bs, rb⟩ := row_of_trod Tryd.underlying22 Tryd.underlying5 (by kernel_rfl) g1'
        have hbb := bytes_bulk g1' rb
        rcases DataW.trod_slice Tryd.underlying23 g2' with ⟨hcs, hx2⟩ | ⟨a, len, cap, elems, rest, m, rfl, hcs, hx2, hb, hl, hm, hlen, hel, _, _⟩
        · obtain rfl : v2 = .slice none 0 0 := by simpa using hcs
          exact ⟨.mk t bs [], v1, _, rfl, ⟨wt, rb, ItsV.nil _⟩, by rw [Dm.wt_eq, hyb]; show 2 + bs.length + Dm.wts [] ≤ _; simp only [Dm.wts]; omega⟩
        · obtain rfl : v2 = .slice (some a) len cap := by simpa using hcs
          have hxb : Rows.uptoBulk x2.1 = Rows.uptoBulkAll (elems.map (·.1)) + Rows.uptoBulkAll (rest.map (·.1)) + 1 := by rw [hx2]; simp [Rows.uptoBulk]
          by_cases h0 : len = 0
          · subst h0
            exact ⟨.mk t bs [], v1, _, rfl, ⟨wt, rb, some a, cap, rfl, Nat.zero_le _, hm, (fun h => by cases h), fun h => absurd rfl h⟩, by rw [Dm.wt_eq, hyb]; show 2 + bs.length + Dm.wts [] ≤ _; simp only [Dm.wts]; omega⟩
          have hs : a.spot = none := by
            have h1 := hel 0 (by omega)
            rw [List.getElem?_eq_getElem (by omega : 0 < elems.length), e3] at h1
            obtain ⟨cs', k1, k2⟩ := Option.bind_eq_some_iff.1 h1
            obtain ⟨x, vb, vl, rfl, hp, _⟩ := ih m (by omega) cs' _ k2
            obtain ⟨_, _, hcell⟩ := World.cells?_some k1
            have q0 : W.cell? ((a.add (0 * 3)).add 0) = some (.int .i64 x.tag) := hcell 0 (by omega)
            simpa [Addr.add] using World.cell?_spot q0
          obtain ⟨b, o, s⟩ := a
          simp only at hs
          subst hs
          have each : ∀ i, i < len → ∃ q : Dm.It, ItemAt W b (o + i * 3) q ∧ ∀ d, (elems.map (·.1))[i]? = some d → Dm.wt q ≤ Rows.uptoBulk d := by
            intro i hi
            have h1 := hel i hi
            rw [List.getElem?_eq_getElem (by omega : i < elems.length), e3] at h1
            obtain ⟨cs', k1, k2⟩ := Option.bind_eq_some_iff.1 h1
            obtain ⟨x, vb, vl, rfl, hp, hw⟩ := ih m (by omega) cs' _ k2
            obtain ⟨_, _, hcell⟩ := World.cells?_some k1
            have q0 := hcell 0 (by omega)
            have q1 := hcell 1 (by omega)
            have q2 := hcell 2 (by omega)
            rw [addr_add, addr_add] at q0 q1 q2
            refine ⟨x, ItemAt.of (by simpa using q0) (by simpa using q1) (by simpa using q2) hp, fun d hd => ?_⟩
            rw [List.getElem?_map, List.getElem?_eq_getElem (by omega : i < elems.length)] at hd
            simp only [Option.map_some, Option.some.injEq] at hd
            rw [← hd]; exact hw
          obtain ⟨q, hq⟩ := Go.Deep.choose_lt each
          have hll : ((List.range len).map q).length = len := by simp
          have hget : ∀ i, i < len → ((List.range len).map q)[i]?.getD Dm.no = q i := fun i hi => by simp [hi]
          have hel2 : (elems.map (·.1)).length = len := by rw [List.length_map]; exact hlen
          have hwts := wts_range (elems.map (·.1)) q (fun i d hd => (hq i (by rw [← hel2]; exact (List.getElem?_eq_some_iff.1 hd).1)).2 d hd)
          rw [hel2] at hwts
          refine ⟨.mk t bs ((List.range len).map q), v1, _, rfl, ⟨wt, rb, some ⟨b, o, none⟩, cap, by rw [show (Dm.It.mk t bs ((List.range len).map q)).l.length = len from hll], by rw [show (Dm.It.mk t bs ((List.range len).map q)).l.length = len from hll]; exact hl, hm, (fun h => by cases h), fun _ => ⟨b, o, rfl, ?_, ?_⟩⟩, ?_⟩
          · obtain ⟨ab, cb, al, cl, z0, -⟩ := (hq 0 (by omega)).1.vals
            exact World.block_lt_of_cell? W _ z0
          · exact ItemsAt.of_all fun i hi => by
              have hi' : i < len := by rw [← hll]; exact hi
              show ItemAt W b (o + i * 3) (((List.range len).map q)[i]?.getD Dm.no)
              rw [hget i hi']; exact (hq i hi').1
          · rw [Dm.wt_eq, hyb, hxb]
            show 2 + bs.length + Dm.wts ((List.range len).map q) ≤ _
            omega
theorem item_open_bulk {H : Type} {enc : TypeId × Value → H} {W : World} {b0 base : Nat} {v : Value} {d : DataW H} {p : List MemPlace} (hv : Value.okWide Tryd.prog W .any b0 25 v)
    (h : DataW.Trod enc Tryd.prog W base (fun _ => true) true 25 v d p) : ∃ x : Dm.It, ItV W v x ∧ Dm.wt x ≤ Rows.uptoBulk d := by
  obtain ⟨v0, v1, v2, y0, y1, y2, n, rfl, -, -, -, -, -⟩ := open_agg3 Tryd.underlying25 (by kernel_rfl) (by kernel_rfl) hv h
  obtain ⟨fuel, h⟩ := h
  obtain ⟨x, vb, vl, e, hp, hw⟩ := item_of_trod_bulk fuel _ _ h
  simp only [Value.cells] at e
  obtain ⟨rfl, rfl, rfl⟩ : v0 = .int .i64 x.tag ∧ v1 = vb ∧ v2 = vl := by simpa using e
  exact ⟨x, ⟨v1, v2, rfl, hp⟩, hw⟩
theorem items_open_bulk {H : Type} {enc : TypeId × Value → H} {W : World} {b0 base : Nat} {v : Value} {d : DataW H} {p : List MemPlace} (hv : Value.okWide Tryd.prog W .any b0 23 v)
    (h : DataW.Trod enc Tryd.prog W base (fun _ => true) true 23 v d p) : ∃ l : List Dm.It, ItsV W v l ∧ Dm.wts l ≤ Rows.uptoBulk d := by
  have e3 : Tryd.prog.cellsOf 25 = 3 := by kernel_rfl
  obtain ⟨a', n', c', rfl⟩ := okWide_slice Tryd.underlying23 hv
  obtain ⟨fuel, h⟩ := h
  simp only [Value.cells] at h
  rcases DataW.trod_slice Tryd.underlying23 h with ⟨hcs, hx2⟩ | ⟨a, len, cap, elems, rest, m, rfl, hcs, hx2, hb, hl, hm, hlen, hel, _, _⟩
  · obtain ⟨rfl, rfl, rfl⟩ : a' = none ∧ n' = 0 ∧ c' = 0 := by simpa using hcs
    exact ⟨[], ItsV.nil _, by simp [Dm.wts]⟩
  · obtain ⟨rfl, rfl, rfl⟩ : a' = some a ∧ n' = len ∧ c' = cap := by simpa using hcs
    have hxb : Rows.uptoBulk d = Rows.uptoBulkAll (elems.map (·.1)) + Rows.uptoBulkAll (rest.map (·.1)) + 1 := by
      rw [(Prod.mk.inj hx2).1]; simp [Rows.uptoBulk]
    by_cases h0 : n' = 0
    · subst h0
      exact ⟨[], ⟨some a, c', rfl, Nat.zero_le _, hm, (fun h => by cases h), fun h => absurd rfl h⟩, by simp [Dm.wts]⟩
    have hs : a.spot = none := by
      have h1 := hel 0 (by omega)
      rw [List.getElem?_eq_getElem (by omega : 0 < elems.length), e3] at h1
      obtain ⟨cs', k1, k2⟩ := Option.bind_eq_some_iff.1 h1
      obtain ⟨x, vb, vl, rfl, hp, _⟩ := item_of_trod_bulk m cs' _ k2
      obtain ⟨_, _, hcell⟩ := World.cells?_some k1
      have q0 : W.cell? ((a.add (0 * 3)).add 0) = some (.int .i64 x.tag) := hcell 0 (by omega)
      simpa [Addr.add] using World.cell?_spot q0
    obtain ⟨b, o, s⟩ := a
    simp only at hs
    subst hs
    have each : ∀ i, i < n' → ∃ q : Dm.It, ItemAt W b (o + i * 3) q ∧ ∀ d, (elems.map (·.1))[i]? = some d → Dm.wt q ≤ Rows.uptoBulk d := by
      intro i hi
      have h1 := hel i hi
      rw [List.getElem?_eq_getElem (by omega : i < elems.length), e3] at h1
      obtain ⟨cs', k1, k2⟩ := Option.bind_eq_some_iff.1 h1
      obtain ⟨x, vb, vl, rfl, hp, hw⟩ := item_of_trod_bulk m cs' _ k2
      obtain ⟨_, _, hcell⟩ := World.cells?_some k1
      have q0 := hcell 0 (by omega)
      have q1 := hcell 1 (by omega)
      have q2 := hcell 2 (by omega)
      rw [addr_add, addr_add] at q0 q1 q2
      refine ⟨x, ItemAt.of (by simpa using q0) (by simpa using q1) (by simpa using q2) hp, fun d hd => ?_⟩
      rw [List.getElem?_map, List.getElem?_eq_getElem (by omega : i < elems.length)] at hd
      simp only [Option.map_some, Option.some.injEq] at hd
      rw [← hd]; exact hw
    obtain ⟨q, hq⟩ := Go.Deep.choose_lt each
    have hll : ((List.range n').map q).length = n' := by simp
    have hget : ∀ i, i < n' → ((List.range n').map q)[i]?.getD Dm.no = q i := fun i hi => by simp [hi]
    have hel2 : (elems.map (·.1)).length = n' := by rw [List.length_map]; exact hlen
    have hwts := wts_range (elems.map (·.1)) q (fun i d hd => (hq i (by rw [← hel2]; exact (List.getElem?_eq_some_iff.1 hd).1)).2 d hd)
    rw [hel2] at hwts
    refine ⟨(List.range n').map q, ⟨some ⟨b, o, none⟩, c', by rw [hll], by rw [hll]; exact hl, hm, (fun h => by cases h), fun _ => ⟨b, o, rfl, ?_, ?_⟩⟩, by omega⟩
    · obtain ⟨ab, cb, al, cl, z0, -⟩ := (hq 0 (by omega)).1.vals
      exact World.block_lt_of_cell? W _ z0
    · exact ItemsAt.of_all fun i hi => by
        have hi' : i < n' := by rw [← hll]; exact hi
        rw [hget i hi']; exact (hq i hi').1
end Go.Proofs.YtpmiihmhfagfoaaDoor
