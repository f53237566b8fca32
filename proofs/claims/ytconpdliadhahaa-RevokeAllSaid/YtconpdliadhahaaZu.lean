/-
  The texts Vt Rm in one. (Merged by wip/merge.py.)
-/
import Derived.Test.YtconpdliadhahaaZa
import Derived.Deep.SlicePairs
import Derived.Lib.QuietBelow
import Derived.BigQuiet
import Derived.Deep.RegionHeld3

section
namespace Go.Proofs.Ytconpdliadhahaa
open Go.RowKit


/-- What becomes of steps: one that is refused changes nothing. -/
def Rv.step (s : List Int × List Int) (x : Int × Int) : List Int × List Int :=
  if x.1 = 0 then (if Rv.addE s.1 s.2 x.2 = 0 then Rv.addR s.1 s.2 x.2 else s) else (if Rv.revE s.1 s.2 x.2 = 0 then Rv.revR s.1 s.2 x.2 else s)
def Rv.steps (s : List Int × List Int) (l : List (Int × Int)) : List Int × List Int := l.foldl Rv.step s
theorem Rv.step_okay {s : List Int × List Int} (h : Rv.okay s.1 s.2) (x : Int × Int) : Rv.okay (Rv.step s x).1 (Rv.step s x).2 := by
  unfold Rv.step
  by_cases h0 : x.1 = 0
  · rw [if_pos h0]
    by_cases h1 : Rv.addE s.1 s.2 x.2 = 0
    · rw [if_pos h1, Rv.addR_zero h1]
      obtain ⟨h2, h3, h4, h5⟩ := (Rv.addE_zero _ _ _).1 h1
      exact Rv.okay_add h2 h3 h4 h5
    · rw [if_neg h1]; exact h
  · rw [if_neg h0]
    by_cases h1 : Rv.revE s.1 s.2 x.2 = 0
    · rw [if_pos h1, Rv.revR_zero h1]
      obtain ⟨h2, h3, h4⟩ := (Rv.revE_zero _ _ _).1 h1
      exact Rv.okay_rev h2 h3 h4
    · rw [if_neg h1]; exact h
theorem Rv.steps_okay : ∀ (l : List (Int × Int)) {s : List Int × List Int}, Rv.okay s.1 s.2 → Rv.okay (Rv.steps s l).1 (Rv.steps s l).2 := by
  intro l
  induction l with
  | nil => intro s h; exact h
  | cons x l ih => intro s h; exact ih (s := Rv.step s x) (Rv.step_okay h x)
theorem Rv.step_mem (s : List Int × List Int) (x : Int × Int) : (∀ y, y ∈ s.1 → y ∈ (Rv.step s x).1) ∧ (∀ y, y ∈ s.2 → y ∈ (Rv.step s x).2) ∧ (∀ y, y ∈ (Rv.step s x).1 → y ∈ s.1 ∨ (x.1 = 0 ∧ x.2 = y)) ∧ (∀ y, y ∈ (Rv.step s x).2 → y ∈ s.2 ∨ (¬ x.1 = 0 ∧ x.2 = y)) := by
  unfold Rv.step
  by_cases h0 : x.1 = 0
  · rw [if_pos h0]
    by_cases h1 : Rv.addE s.1 s.2 x.2 = 0
    · rw [if_pos h1, Rv.addR_zero h1]
      refine ⟨fun y hy => (Rv.mem_ins _ _ _).2 (.inr hy), fun y hy => hy, fun y hy => ?_, fun y hy => .inl hy⟩
      rcases (Rv.mem_ins _ _ _).1 hy with e | hy
      · exact .inr ⟨h0, e.symm⟩
      · exact .inl hy
    · rw [if_neg h1]; exact ⟨fun _ h => h, fun _ h => h, fun _ h => .inl h, fun _ h => .inl h⟩
  · rw [if_neg h0]
    by_cases h1 : Rv.revE s.1 s.2 x.2 = 0
    · rw [if_pos h1, Rv.revR_zero h1]
      refine ⟨fun y hy => hy, fun y hy => (Rv.mem_ins _ _ _).2 (.inr hy), fun y hy => .inl hy, fun y hy => ?_⟩
      rcases (Rv.mem_ins _ _ _).1 hy with e | hy
      · exact .inr ⟨h0, e.symm⟩
      · exact .inl hy
    · rw [if_neg h1]; exact ⟨fun _ h => h, fun _ h => h, fun _ h => .inl h, fun _ h => .inl h⟩
/-- Is a number asked for by a step of a kind (issued: true)? -/
def Rv.asks (l : List (Int × Int)) (issued : Bool) (n : Int) : Prop := ∃ x ∈ l, (decide (x.1 = 0)) = issued ∧ x.2 = n
theorem Rv.steps_mem : ∀ (l : List (Int × Int)) (s : List Int × List Int), (∀ y, y ∈ s.1 → y ∈ (Rv.steps s l).1) ∧ (∀ y, y ∈ s.2 → y ∈ (Rv.steps s l).2) ∧ (∀ y, y ∈ (Rv.steps s l).1 → y ∈ s.1 ∨ Rv.asks l true y) ∧ (∀ y, y ∈ (Rv.steps s l).2 → y ∈ s.2 ∨ Rv.asks l false y) := by
  intro l
  induction l with
  | nil => intro s; exact ⟨fun _ h => h, fun _ h => h, fun _ h => .inl h, fun _ h => .inl h⟩
  | cons x l ih =>
    intro s
    obtain ⟨a1, a2, a3, a4⟩ := Rv.step_mem s x
    obtain ⟨b1, b2, b3, b4⟩ := ih (Rv.step s x)
    refine ⟨fun y hy => b1 y (a1 y hy), fun y hy => b2 y (a2 y hy), fun y hy => ?_, fun y hy => ?_⟩
    · rcases b3 y hy with h | ⟨z, hz, h1, h2⟩
      · rcases a3 y h with h | ⟨h1, h2⟩
        · exact .inl h
        · exact .inr ⟨x, List.mem_cons_self, decide_eq_true h1, h2⟩
      · exact .inr ⟨z, List.mem_cons_of_mem _ hz, h1, h2⟩
    · rcases b4 y hy with h | ⟨z, hz, h1, h2⟩
      · rcases a4 y h with h | ⟨h1, h2⟩
        · exact .inl h
        · exact .inr ⟨x, List.mem_cons_self, decide_eq_false h1, h2⟩
      · exact .inr ⟨z, List.mem_cons_of_mem _ hz, h1, h2⟩
theorem Rv.steps_next (s : List Int × List Int) (l : List (Int × Int)) (k : Nat) (hk : k < l.length) : Rv.steps s (l.take (k + 1)) = Rv.step (Rv.steps s (l.take k)) (l[k]?.getD (0, 0)) := by
  unfold Rv.steps
  rw [List.take_add_one, List.getElem?_eq_getElem hk, List.foldl_append]; rfl
/-- None of the first k asks. -/
def NoAsk (l : List (Int × Int)) (issued : Bool) (n : Int) (k : Nat) : Prop := ∀ i, i < k → ¬ (decide ((l[i]?.getD (0, 0)).1 = 0) = issued ∧ (l[i]?.getD (0, 0)).2 = n)
theorem noAsk_all {l : List (Int × Int)} {b : Bool} {n : Int} (h : NoAsk l b n l.length) : ¬ Rv.asks l b n := fun ⟨x, hx, h1, h2⟩ => by
  obtain ⟨i, hi, rfl⟩ := List.getElem_of_mem hx
  have := h i hi
  rw [List.getElem?_eq_getElem hi] at this
  exact this ⟨h1, h2⟩
theorem ask_at {l : List (Int × Int)} {b : Bool} {n : Int} {k : Nat} (hk : k < l.length) (h1 : decide ((l[k]?.getD (0, 0)).1 = 0) = b) (h2 : (l[k]?.getD (0, 0)).2 = n) : Rv.asks l b n := by
  rw [List.getElem?_eq_getElem hk] at h1 h2
  exact ⟨_, List.getElem_mem hk, h1, h2⟩
instance (l : List (Int × Int)) (b : Bool) (n : Int) : Decidable (Rv.asks l b n) := by unfold Rv.asks; infer_instance
/-- A slice of pairs of numbers. -/
def Prs (w : World) (v : Value) (ls : List (Int × Int)) : Prop :=
  ∃ a cap, v = .slice a ls.length cap ∧ (∀ x ∈ ls, (Lit.int .i64 x.1).wf = true ∧ (Lit.int .i64 x.2).wf = true) ∧
    (ls ≠ [] → ∃ b off, a = some ⟨b, off, none⟩ ∧ b < w.heap.size ∧ ∀ i, i < ls.length →
      w.cell? ⟨b, off + i * 2, none⟩ = some (.int .i64 (ls[i]?.getD (0, 0)).1) ∧ w.cell? ⟨b, off + i * 2 + 1, none⟩ = some (.int .i64 (ls[i]?.getD (0, 0)).2))
theorem Prs.below {w w' : World} {v : Value} {ls : List (Int × Int)} (h : Prs w v ls) (hb : Below w.heap.size w w') : Prs w' v ls := by
  obtain ⟨a, cap, h1, h0, h5⟩ := h
  refine ⟨a, cap, h1, h0, fun hne => ?_⟩
  obtain ⟨b, off, e, hlt, hc⟩ := h5 hne
  refine ⟨b, off, e, Nat.lt_of_lt_of_le hlt hb.size, fun i hi => ?_⟩
  obtain ⟨k0, k1⟩ := hc i hi
  exact ⟨(hb.cell (p := ⟨b, _, none⟩) hlt).trans k0, (hb.cell (p := ⟨b, _, none⟩) hlt).trans k1⟩
theorem Prs.shape {w : World} {v : Value} {ls : List (Int × Int)} (h : Prs w v ls) : ∃ a c, v = .slice a ls.length c := by
  obtain ⟨a, c, e, -⟩ := h
  exact ⟨a, c, e⟩
theorem Prs.alloc {w : World} {v : Value} {ls : List (Int × Int)} (h : Prs w v ls) (o : Obj) : Prs (w.alloc o) v ls := h.below ((Below.refl _ w).alloc (Nat.le_refl _) o)
theorem Prs.stp {w w' : World} {v : Value} {ls : List (Int × Int)} (h : Prs w v ls) (s : Stp w w') : Prs w' v ls := h.below s
/-- A store elsewhere. -/
theorem Prs.aside {w : World} {v : Value} {ls : List (Int × Int)} (h : Prs w v ls) {p : Addr} (hp : Off p.block v) (u : Value) : Prs (w.setCell p u) v ls := by
  obtain ⟨a, cap, h1, h0, h5⟩ := h
  refine ⟨a, cap, h1, h0, fun hne => ?_⟩
  obtain ⟨b, off, e, hlt, hc⟩ := h5 hne
  subst e
  have hl : 0 < ls.length := by cases ls with | nil => exact absurd rfl hne | cons => simp
  have hx : ∀ o : Nat, p ≠ ⟨b, o, none⟩ := fun o e => hp _ _ _ _ h1 hl (by rw [e])
  refine ⟨b, off, rfl, by simpa using hlt, fun i hi => ?_⟩
  exact ⟨(World.cell?_setCell_other w p _ u (hx _)).trans (hc i hi).1, (World.cell?_setCell_other w p _ u (hx _)).trans (hc i hi).2⟩
theorem Prs.off_duo {W : World} {R : Nat} {t : TypeId} {a1 a2 : Option Addr} {n1 n2 c1 c2 : Nat} {v : Value} {l : List (Int × Int)} (h : Prs W v l) (hd : Duo W R t (.slice a1 n1 c1) (.slice a2 n2 c2)) : Off R v := fun b o n c e hn he => by
  obtain ⟨a, cap, e2, _, hc⟩ := h
  rw [e] at e2
  cases e2
  obtain ⟨b2, o2, e3, _, hcell⟩ := hc (by rintro rfl; simp at hn)
  cases e3
  subst he
  have h0 := (hcell 0 (by omega)).1
  simp only [World.cell?, show W.heap[b]? = _ from hd, Nat.zero_mul, Nat.add_zero] at h0
  match o, h0 with
  | 0, h0 => simp at h0
  | 1, h0 => simp at h0
  | k + 2, h0 => simp at h0
/-- A block to come. -/
def Fresh (V : World) (g : Nat) : Prop := V.heap.size ≤ g
/-- A block of old. -/
def Old (V : World) (b : Nat) : Prop := b < V.heap.size
theorem Fresh.ne {V : World} {g b : Nat} (h : Fresh V g) (hb : b < V.heap.size) : ¬ b = g := by unfold Fresh at h; omega
/-- A cell holds a value. -/
def CellIs (W : World) (b o : Nat) (v : Value) : Prop := b < W.heap.size ∧ W.cell? ⟨b, o, none⟩ = some v
theorem CellIs.stp {w w' : World} {b o : Nat} {v : Value} (h : CellIs w b o v) (s : Stp w w') : CellIs w' b o v := ⟨Nat.lt_of_lt_of_le h.1 s.size, (Below.cell s (p := ⟨b, o, none⟩) h.1).trans h.2⟩
theorem CellIs.alloc {w : World} {b o : Nat} {v : Value} (h : CellIs w b o v) (x : Obj) : CellIs (w.alloc x) b o v := h.stp ((Below.refl _ w).alloc (Nat.le_refl _) x)
theorem CellIs.other {w : World} {b o : Nat} {v : Value} (h : CellIs w b o v) {p : Addr} (hp : p.block ≠ b) (u : Value) : CellIs (w.setCell p u) b o v :=
  ⟨by simpa using h.1, (World.cell?_setCell_other w p _ u (fun e => hp (by rw [e]))).trans h.2⟩
set_option maxRecDepth 100000 in
theorem steps_open {H : Type} {enc : TypeId × Value → H} {W : World} {b0 base : Nat} {v : Value} {d : DataW H} {p : List MemPlace} (hv : Value.okWide Try.prog W .any b0 43 v)
    (h : DataW.Trod enc Try.prog W base (fun _ => true) true 43 v d p) : ∃ x : List (Int × Int), Prs W v x := by
  obtain ⟨va, vl, vc, rfl⟩ := Go.WideShapes.okWide_slice Try.underlying43 hv
  obtain ⟨fuel, h⟩ := h
  rcases Go.Deep.open_slice_pairs Try.underlying43 Try.underlying63 (by kernel_rfl) rfl rfl (by kernel_rfl) (by kernel_rfl) h with ⟨hcs, _⟩ | ⟨a, len, cap, m, n, V0, V1, D0, D1, P0, P1, hcs, _, hl, hm, hmm, _, hc⟩
  · simp [Value.cells] at hcs
    obtain ⟨rfl, rfl, rfl⟩ := hcs
    exact ⟨[], none, 0, rfl, by simp, fun h => absurd rfl h⟩
  · simp [Value.cells] at hcs
    obtain ⟨rfl, rfl, rfl⟩ := hcs
    rw [if_pos rfl] at hmm
    have each : ∀ i, i < vl → ∃ q : Int × Int, V0 i = .int .i64 q.1 ∧ V1 i = .int .i64 q.2 ∧ (Lit.int .i64 q.1).wf = true ∧ (Lit.int .i64 q.2).wf = true := by
      intro i hi
      obtain ⟨_, _, t0, t1⟩ := hc i (by omega)
      obtain ⟨n0, e0, -, w0⟩ := DataW.trod_int Try.underlying3 t0
      obtain ⟨n1, e1, -, w1⟩ := DataW.trod_int Try.underlying3 t1
      exact ⟨(n0, n1), by simpa using e0, by simpa using e1, w0, w1⟩
    obtain ⟨q, hq⟩ := Go.Deep.choose_lt each
    have hlen : ((List.range vl).map q).length = vl := by simp
    have hget : ∀ i, i < vl → ((List.range vl).map q)[i]?.getD (0, 0) = q i := fun i hi => by simp [hi]
    refine ⟨(List.range vl).map q, some a, vc, by rw [hlen], fun x hx => ?_, fun hne => ?_⟩
    · obtain ⟨i, hi, rfl⟩ := List.mem_map.1 hx
      exact (hq i (List.mem_range.1 hi)).2.2
    · have h0 : 0 < vl := by
        apply Nat.pos_of_ne_zero; rintro rfl; simp at hne
      obtain ⟨b, off, spot⟩ := a
      have hc0 := (hc 0 (by omega)).1
      have hspot : spot = none := by simpa [Addr.add] using World.cell?_spot hc0
      subst hspot
      refine ⟨b, off, rfl, ?_, fun i hi => ?_⟩
      · have := World.block_lt_of_cell? W _ hc0; simpa [Addr.add] using this
      · rw [hlen] at hi
        rw [hget i hi]
        obtain ⟨k0, k1, -, -⟩ := hc i (by omega)
        obtain ⟨e0, e1, -, -⟩ := hq i hi
        rw [addr_add] at k0 k1
        rw [← e0, ← e1]
        exact ⟨k0, k1⟩
set_option maxRecDepth 100000 in
set_option maxHeartbeats 8000000 in
theorem asked0_any (v : Value) (l : List (Int × Int)) (n : Int) (w : World) (h : Prs w v l) (hl : l.length ≤ 1000000) :
    Calls Try.prog 27 #[v, .int .i64 0, .int .i64 n] w fun e w' => e = .returned (.bool (decide (Rv.asks l true n))) ∧ w = w' := by
  obtain ⟨a, cap, rfl⟩ := h.shape
  have H := Lib.hid h
  clear h
  go_enter Try.func27, Try.ntmps27
  go_wp2_with fail
  go_loop [7] (fun i => ∃ k : Nat, i = .int .i64 k ∧ k ≤ l.length ∧ NoAsk l true n k) (fun i => l.length - (intOf i).toNat)
  case atStart => exact ⟨0, rfl, Nat.zero_le _, fun i hi => absurd hi (Nat.not_lt_zero _)⟩
  case round =>
    obtain ⟨k, rfl, hk, hN⟩ := hrel
    have HN := Lib.hid hN
    clear hN
    have k0 : (0 : Int) ≤ (k : Int) := by omega
    have e1 : IntKind.i64.wrap ((k : Int) + 1) = (k : Int) + 1 := IntWalk.i64_in _ (by omega)
    by_cases hlt : k < l.length
    · obtain ⟨_, _, e', _, h5⟩ := H.out
      cases e'
      obtain ⟨b0, o0, rfl, hb0, hc0⟩ := h5 (by rintro rfl; simp at hlt)
      obtain ⟨hck, hdk⟩ := hc0 k hlt
      obtain ⟨x, hx⟩ : ∃ x, (l[k]?.getD (0, 0)).1 = x := ⟨_, rfl⟩
      obtain ⟨y, hy⟩ : ∃ x, (l[k]?.getD (0, 0)).2 = x := ⟨_, rfl⟩
      rw [hx] at hck
      rw [hy] at hdk
      have HX := Lib.hid hx; have HY := Lib.hid hy
      have k1 : (k : Int) < (l.length : Int) := by omega
      clear hc0 h5 hx hy
      by_cases hz : x = 0
      · subst hz
        by_cases hyn : y = n
        · subst hyn
          have hm := Lib.hid (ask_at (b := true) (n := y) hlt (by rw [HX.out]; exact decide_eq_true rfl) HY.out)
          go_wp2_with fail
          go_ret
          exact ⟨ret_bool (decide_eq_true hm.out).symm, rfl⟩
        · go_wp2_with fail
          go_round
          case rel =>
            refine ⟨k + 1, by go_num, by omega, fun i hi => ?_⟩
            rcases Nat.lt_or_ge i k with h | h
            · exact HN.out i h
            · obtain rfl : i = k := by omega
              rw [HX.out, HY.out]; exact fun h => hyn h.2
          case measure => simp [intOf]; omega
      · go_wp2_with fail
        go_round
        case rel =>
          refine ⟨k + 1, by go_num, by omega, fun i hi => ?_⟩
          rcases Nat.lt_or_ge i k with h | h
          · exact HN.out i h
          · obtain rfl : i = k := by omega
            rw [HX.out, HY.out]; exact fun h => hz (of_decide_eq_true h.1)
        case measure => simp [intOf]; omega
    · obtain rfl : k = l.length := by omega
      go_wp2_with fail
      go_ret
      exact ⟨ret_bool (decide_eq_false (noAsk_all HN.out)).symm, rfl⟩
set_option maxRecDepth 100000 in
set_option maxHeartbeats 8000000 in
theorem asked1_any (v : Value) (l : List (Int × Int)) (n : Int) (w : World) (h : Prs w v l) (hl : l.length ≤ 1000000) :
    Calls Try.prog 27 #[v, .int .i64 1, .int .i64 n] w fun e w' => e = .returned (.bool (decide (Rv.asks l false n))) ∧ w = w' := by
  obtain ⟨a, cap, rfl⟩ := h.shape
  have H := Lib.hid h
  clear h
  go_enter Try.func27, Try.ntmps27
  go_wp2_with fail
  go_loop [7] (fun i => ∃ k : Nat, i = .int .i64 k ∧ k ≤ l.length ∧ NoAsk l false n k) (fun i => l.length - (intOf i).toNat)
  case atStart => exact ⟨0, rfl, Nat.zero_le _, fun i hi => absurd hi (Nat.not_lt_zero _)⟩
  case round =>
    obtain ⟨k, rfl, hk, hN⟩ := hrel
    have HN := Lib.hid hN
    clear hN
    have k0 : (0 : Int) ≤ (k : Int) := by omega
    have e1 : IntKind.i64.wrap ((k : Int) + 1) = (k : Int) + 1 := IntWalk.i64_in _ (by omega)
    by_cases hlt : k < l.length
    · obtain ⟨_, _, e', _, h5⟩ := H.out
      cases e'
      obtain ⟨b0, o0, rfl, hb0, hc0⟩ := h5 (by rintro rfl; simp at hlt)
      obtain ⟨hck, hdk⟩ := hc0 k hlt
      obtain ⟨x, hx⟩ : ∃ x, (l[k]?.getD (0, 0)).1 = x := ⟨_, rfl⟩
      obtain ⟨y, hy⟩ : ∃ x, (l[k]?.getD (0, 0)).2 = x := ⟨_, rfl⟩
      rw [hx] at hck
      rw [hy] at hdk
      have HX := Lib.hid hx; have HY := Lib.hid hy
      have k1 : (k : Int) < (l.length : Int) := by omega
      clear hc0 h5 hx hy
      by_cases hz : x = 0
      · subst hz
        go_wp2_with fail
        go_round
        case rel =>
          refine ⟨k + 1, by go_num, by omega, fun i hi => ?_⟩
          rcases Nat.lt_or_ge i k with h | h
          · exact HN.out i h
          · obtain rfl : i = k := by omega
            rw [HX.out, HY.out]; exact fun h => by exact absurd h.1 (by simp)
        case measure => simp [intOf]; omega
      · have hz2 : (x != 0) = true := by simpa using hz
        by_cases hyn : y = n
        · subst hyn
          have hm := Lib.hid (ask_at (b := false) (n := y) hlt (by rw [HX.out]; exact decide_eq_false hz) HY.out)
          go_wp2_with fail
          go_ret
          exact ⟨ret_bool (decide_eq_true hm.out).symm, rfl⟩
        · have hyn2 : (y == n) = false := by simpa using hyn
          go_wp2_with fail
          go_round
          case rel =>
            refine ⟨k + 1, by go_num, by omega, fun i hi => ?_⟩
            rcases Nat.lt_or_ge i k with h | h
            · exact HN.out i h
            · obtain rfl : i = k := by omega
              rw [HX.out, HY.out]; exact fun h => hyn h.2
          case measure => simp [intOf]; omega
    · obtain rfl : k = l.length := by omega
      go_wp2_with fail
      go_ret
      exact ⟨ret_bool (decide_eq_false (noAsk_all HN.out)).symm, rfl⟩

end Go.Proofs.Ytconpdliadhahaa
end

section
namespace Go.Proofs.Ytconpdliadhahaa
open Go.RowKit Go.Sort


/-- What RevokeAll's loop has done behind k rounds: GA from the first one on, GB from the last one. -/
structure AllSt (live gone : List Int) (k : Nat) (GA GB : List Int) : Prop where
  oA : Rv.okay live GA
  oB : Rv.okay live GB
  mA : ∀ x, x ∈ GA ↔ x ∈ gone ∨ x ∈ live.take k
  mB : ∀ x, x ∈ GB ↔ x ∈ gone ∨ x ∈ live.drop (live.length - k)
theorem mem_take_next {l : List Int} {k : Nat} (hk : k < l.length) (y : Int) : y ∈ l.take (k + 1) ↔ y ∈ l.take k ∨ y = l[k]?.getD 0 := by
  have e : l.take (k + 1) = l.take k ++ [l[k]] := by rw [List.take_add_one, List.getElem?_eq_getElem hk]; rfl
  rw [e, List.getElem?_eq_getElem hk, List.mem_append, List.mem_singleton]; rfl
theorem mem_drop_next {l : List Int} {j : Nat} (hj : j < l.length) (y : Int) : y ∈ l.drop j ↔ y = l[j]?.getD 0 ∨ y ∈ l.drop (j + 1) := by
  rw [List.drop_eq_getElem_cons hj, List.mem_cons, List.getElem?_eq_getElem hj]; rfl
theorem AllSt.start {live gone : List Int} (h : Rv.okay live gone) : AllSt live gone 0 gone gone := ⟨h, h, by simp, by simp⟩
/-- One of the numbers is revoked, unless it is already. -/
def Rv.more (g : List Int) (x : Int) : List Int := if x ∈ g then g else Rv.ins g x
theorem Rv.more_mem (g : List Int) (x y : Int) : y ∈ Rv.more g x ↔ y = x ∨ y ∈ g := by
  unfold Rv.more
  by_cases h : x ∈ g
  · rw [if_pos h]; exact ⟨.inr, fun h2 => by rcases h2 with rfl | h2; exact h; exact h2⟩
  · rw [if_neg h, Rv.mem_ins]
theorem Rv.more_okay {live g : List Int} {x : Int} (h : Rv.okay live g) (hx : x ∈ live) : Rv.okay live (Rv.more g x) := by
  unfold Rv.more
  by_cases hg : x ∈ g
  · rw [if_pos hg]; exact h
  · rw [if_neg hg]; exact Rv.okay_rev h hx hg
theorem AllSt.next {live gone : List Int} {k j : Nat} {GA GB : List Int} (h : AllSt live gone k GA GB) (hk : k < live.length) (hj : j + 1 + k = live.length) : AllSt live gone (k + 1) (Rv.more GA (live[k]?.getD 0)) (Rv.more GB (live[j]?.getD 0)) := by
  have hjl : j < live.length := by omega
  have e1 : live.length - k = j + 1 := by omega
  have e2 : live.length - (k + 1) = j := by omega
  refine ⟨Rv.more_okay h.oA (mem_at hk rfl), Rv.more_okay h.oB (mem_at hjl rfl), fun x => ?_, fun x => ?_⟩
  · rw [Rv.more_mem, h.mA, mem_take_next hk]
    constructor
    · rintro (h | h | h); exact .inr (.inr h); exact .inl h; exact .inr (.inl h)
    · rintro (h | h | h); exact .inr (.inl h); exact .inr (.inr h); exact .inl h
  · have hm := h.mB x
    rw [e1] at hm
    rw [Rv.more_mem, hm, e2, mem_drop_next hjl]
    constructor
    · rintro (h | h | h); exact .inr (.inl h); exact .inl h; exact .inr (.inr h)
    · rintro (h | h | h); exact .inr (.inl h); exact .inl h; exact .inr (.inr h)
theorem AllSt.last {live gone : List Int} {GA GB : List Int} (h : AllSt live gone live.length GA GB) (ho : Rv.okay live gone) : GA = live ∧ GB = live := by
  refine ⟨Rv.sorted_ext h.oA.1.2.1.2 h.oA.1.1.2 fun x => ?_, Rv.sorted_ext h.oB.1.2.1.2 h.oB.1.1.2 fun x => ?_⟩
  · rw [h.mA, List.take_length]; exact ⟨fun h => by rcases h with h | h; exact ho.1.2.2 x h; exact h, .inr⟩
  · rw [h.mB, Nat.sub_self, List.drop_zero]; exact ⟨fun h => by rcases h with h | h; exact ho.1.2.2 x h; exact h, .inr⟩
theorem rev_one {live g : List Int} {x : Int} (h : Rv.okay live g) (hx : x ∈ live) : (x ∈ g → Rv.revE live g x = 270 ∧ Rv.revR live g x = ([], []) ∧ Rv.more g x = g) ∧ (x ∉ g → Rv.revE live g x = 0 ∧ Rv.revR live g x = (live, Rv.more g x)) := by
  refine ⟨fun hg => ?_, fun hg => ?_⟩
  · have e : Rv.revE live g x = 270 := by unfold Rv.revE; rw [if_pos h, if_pos hx, if_pos hg]
    exact ⟨e, Rv.revR_not (by rw [e]; decide), by unfold Rv.more; rw [if_pos hg]⟩
  · have e : Rv.revE live g x = 0 := (Rv.revE_zero _ _ _).2 ⟨h, hx, hg⟩
    exact ⟨e, by rw [Rv.revR_zero e]; unfold Rv.more; rw [if_neg hg]⟩
theorem okay_none {live gone : List Int} (h : Rv.okay live gone) : Rv.okay live [] := ⟨⟨h.1.1, Rv.rises_nil, by simp⟩, h.2⟩
theorem okay_all {live gone : List Int} (h : Rv.okay live gone) : Rv.okay live live := ⟨⟨h.1.1, h.1.1, fun _ h => h⟩, h.2⟩
/-- No cascade of a day. -/
theorem Day_no (vl vg : Value) (live gone : List Int) (day : Int) (w : World) (h : Row .i64 w vl live) (hg : Row .i64 w vg gone) (hl : live.length ≤ 1000000) (hgl : gone.length ≤ 1000000) (hno : Rv.day live gone day = none) :
    Calls Try.prog 21 #[.agg #[vl, vg], .int .i64 day] w fun e w' => (∃ cc : Int, cc ≠ 0 ∧ e = .returned (.tuple #[.agg #[.int .i64 0, .slice none 0 0], .int .i64 cc])) ∧ Below w.heap.size w w' := by
  by_cases ho : Rv.okay live gone
  · by_cases hd : Cm.dated day
    · unfold Rv.day at hno
      rw [if_pos ⟨ho, hd⟩] at hno
      exact (Day_none vl vg live gone day w h hg hl hgl ho ⟨hd, hno⟩).mono fun _ _ h => ⟨⟨2, by decide, h.1⟩, h.2⟩
    · exact (Day_arg vl vg live gone day w h hg hl hgl ho hd).mono fun _ _ h => ⟨⟨1, by decide, h.1⟩, h.2⟩
  · exact Day_not vl vg live gone day w h hg hl hgl ho
/-- The cascade of a day. -/
theorem Day_yes (vl vg : Value) (live gone : List Int) (day : Int) (ls : List Sm.Sv) (w : World) (h : Row .i64 w vl live) (hg : Row .i64 w vg gone) (hl : live.length ≤ 1000000) (hgl : gone.length ≤ 1000000) (hs : Rv.day live gone day = some ls) :
    Calls Try.prog 21 #[.agg #[vl, vg], .int .i64 day] w fun e w' => (∃ a c, e = .returned (.tuple #[.agg #[.int .i64 day, .slice a ls.length c], .int .i64 0]) ∧ Svs w' (.slice a ls.length c) ls) ∧ Below w.heap.size w w' := by
  obtain ⟨ho, hd, -⟩ := Rv.day_has hs
  have hs2 := hs
  unfold Rv.day at hs2
  rw [if_pos ⟨ho, hd⟩] at hs2
  exact (Day_some vl vg live gone day ls w h hg hl hgl ho ⟨hd, hs2⟩).mono fun _ _ ⟨a, c, h1, h2, h3⟩ => ⟨⟨a, c, h1, h2⟩, h3⟩
set_option maxRecDepth 100000 in
set_option maxHeartbeats 8000000 in
theorem RevokeAll_any (v : Value) (x : List Int × List Int) (day : Int) (w : World) (h : RvV w v x) (_k2 : (Lit.int .i64 day).wf = true) :
    Calls Try.prog 8 #[v, .int .i64 day] w fun e w' => e = .returned (.bool true) ∧ Below w.heap.size w w' := by
  clear _k2
  obtain ⟨Rb, hRb⟩ : ∃ b, w.heap.size = b := ⟨_, rfl⟩
  have HRb := Lib.hid hRb
  clear hRb
  obtain ⟨live, gone, al, cl, ag, cg, rfl, rl, rg⟩ := h.parts
  clear h
  have hB := Below.refl w.heap.size w
  go_enter Try.func8, Try.ntmps8
  have bR := Duo.new w 24 (.slice al live.length cl) (.slice ag gone.length cg)
  go_wp2_with fail
  refine (live27_true _).mono ?_; rintro e w1 ⟨rfl, hb⟩
  replace hB := bel_stp (bel_alloc hB _) hb
  replace rl := (rl.alloc _).stp hb
  replace rg := (rg.alloc _).stp hb
  replace bR := bR.stp hb
  clear hb
  have c0_bR := bR.cell0
  have c1_bR := bR.cell1
  have lt_bR := bR.lt
  obtain ⟨fw, hfw⟩ : ∃ b, (decide (live.length ≤ 40) && decide (gone.length ≤ 40)) = b := ⟨_, rfl⟩
  have HFw := Lib.hid hfw
  clear hfw
  go_wp2_with fail
  refine (LFew_any live.length gone.length al ag cl cg _).mono ?_; rintro e w2 ⟨rfl, hb⟩
  clear c0_bR c1_bR lt_bR
  replace hB := bel_stp hB hb
  replace rl := rl.stp hb
  replace rg := rg.stp hb
  replace bR := bR.stp hb
  clear hb
  rw [HFw.out]
  cases fw
  case false =>
    have c0_bR := bR.cell0
    have c1_bR := bR.cell1
    have lt_bR := bR.lt
    go_wp2_with fail
    go_ret
    exact ⟨rfl, hB⟩
  obtain ⟨n1, n2⟩ : live.length ≤ 40 ∧ gone.length ≤ 40 := by have := HFw.out; simpa using this
  clear HFw
  have c0_bR := bR.cell0
  have c1_bR := bR.cell1
  have lt_bR := bR.lt
  go_wp2_with fail
  refine (RCheck_any _ _ live gone _ rl rg (by omega) (by omega)).mono ?_; rintro e w3 ⟨rfl, hb⟩
  clear c0_bR c1_bR lt_bR
  replace hB := bel_stp hB hb
  replace rl := rl.stp hb
  replace rg := rg.stp hb
  replace bR := bR.stp hb
  clear hb
  by_cases hok : Rv.okay live gone
  case neg =>
    obtain ⟨cc, hcc⟩ : ∃ cc, Rv.chk live gone = cc := ⟨_, rfl⟩
    have hcn : ¬ cc = 0 := by rw [← hcc]; exact Rv.chk_not hok
    rw [hcc]
    clear hcc hok
    have c0_bR := bR.cell0
    have c1_bR := bR.cell1
    have lt_bR := bR.lt
    go_wp2_with fail
    go_ret
    exact ⟨rfl, hB⟩
  rw [Rv.chk_okay hok]
  have HOk := Lib.hid hok
  have n3 : live.length ≤ 256 := hok.2
  clear hok
  obtain ⟨A0, hA0⟩ : ∃ b, w3.heap.size = b := ⟨_, rfl⟩
  have HLt : Hid (Rb < A0) := Lib.hid (by have h1 := bR.lt; rw [hA0, HRb.out] at h1; exact h1)
  obtain ⟨B0, hB0⟩ : ∃ b, A0 + 1 = b := ⟨_, rfl⟩
  obtain ⟨V, hV⟩ : ∃ V, (World.alloc w3 (.cells #[.slice al live.length cl, .slice ag gone.length cg] 24)).alloc (.cells #[.slice al live.length cl, .slice ag gone.length cg] 24) = V := ⟨_, rfl⟩
  have bA : Duo V A0 24 (.slice al live.length cl) (.slice ag gone.length cg) := by rw [← hV, ← hA0]; exact (Duo.new w3 24 _ _).alloc _
  have bB : Duo V B0 24 (.slice al live.length cl) (.slice ag gone.length cg) := by rw [← hV]; exact Duo.new' _ _ _ _ _ (by simp [← hB0, hA0])
  have zc0 := bR.cell0; have zc1 := bR.cell1; have zl := bR.lt
  replace hB := bel_alloc (bel_alloc hB (.cells #[.slice al live.length cl, .slice ag gone.length cg] 24)) (.cells #[.slice al live.length cl, .slice ag gone.length cg] 24)
  replace rl := (rl.alloc (.cells #[.slice al live.length cl, .slice ag gone.length cg] 24)).alloc (.cells #[.slice al live.length cl, .slice ag gone.length cg] 24)
  replace rg := (rg.alloc (.cells #[.slice al live.length cl, .slice ag gone.length cg] 24)).alloc (.cells #[.slice al live.length cl, .slice ag gone.length cg] 24)
  replace bR := (bR.alloc (.cells #[.slice al live.length cl, .slice ag gone.length cg] 24)).alloc (.cells #[.slice al live.length cl, .slice ag gone.length cg] 24)
  rw [hV] at hB rl rg bR
  rw [HRb.out] at bR
  have HV := Lib.hid hV; have HA0 := Lib.hid hA0; have HB0 := Lib.hid hB0
  skip
  have nAB : ¬ A0 = B0 := by omega
  have nRA : ¬ Rb = A0 := by have := HLt.out; omega
  have nRB : ¬ Rb = B0 := by have := HLt.out; omega
  have wA : w.heap.size ≤ A0 := by have := HLt.out; have := HRb.out; omega
  have wB : w.heap.size ≤ B0 := by omega
  have wA' := Lib.hid wA; have wB' := Lib.hid wB
  clear wA wB
  clear hV hA0 hB0
  go_wp2_with fail
  rw [HV.out]
  (try rw [HA0.out])
  (try rw [HB0.out])
  (try rw [HRb.out])
  (try go_wp2_with fail)
  clear zc0 zc1 zl
  go_loopw [7, 8, 9, 10, 11] (fun i _ _ _ _ wr => ∃ (k : Nat) (GA GB : List Int) (a1 a2 a3 a4 : Option Addr) (c1 c2 c3 c4 : Nat), i = .int .i64 k ∧ k ≤ live.length ∧ Duo wr Rb 24 (.slice al live.length cl) (.slice ag gone.length cg) ∧ Duo wr A0 24 (.slice a1 live.length c1) (.slice a2 GA.length c2) ∧ Duo wr B0 24 (.slice a3 live.length c3) (.slice a4 GB.length c4) ∧ Row .i64 wr (.slice al live.length cl) live ∧ Row .i64 wr (.slice ag gone.length cg) gone ∧ Row .i64 wr (.slice a1 live.length c1) live ∧ Row .i64 wr (.slice a2 GA.length c2) GA ∧ Row .i64 wr (.slice a3 live.length c3) live ∧ Row .i64 wr (.slice a4 GB.length c4) GB ∧ Below w.heap.size w wr ∧ Hid (AllSt live gone k GA GB)) (fun i _ _ _ _ _ => live.length - (intOf i).toNat)
  case atStart => exact ⟨0, gone, gone, al, ag, al, ag, cl, cg, cl, cg, rfl, Nat.zero_le _, bR, bA, bB, rl, rg, rl, rg, rl, rg, hB, Lib.hid (AllSt.start HOk.out)⟩
  case round =>
    clear bR bA bB rl rg hB
    obtain ⟨k, GA, GB, a1, a2, a3, a4, c1, c2, c3, c4, rfl, hk, bR, bA, bB, rl, rg, r1, r2, r3, r4, hB, HT⟩ := hrel
    have k0 : (0 : Int) ≤ (k : Int) := by omega
    have e1 : IntKind.i64.wrap ((k : Int) + 1) = (k : Int) + 1 := IntWalk.i64_in _ (by omega)
    have lA : GA.length ≤ 256 := Rv.gone_le HT.out.oA
    have lB : GB.length ≤ 256 := Rv.gone_le HT.out.oB
    by_cases hlt : k < live.length
    case pos =>
      have k1 : (k : Int) < (live.length : Int) := by omega
      obtain ⟨j, hj⟩ : ∃ j : Nat, j + 1 + k = live.length := ⟨live.length - 1 - k, by omega⟩
      have e2 : IntKind.i64.wrap ((live.length : Int) - 1) = (live.length : Int) - 1 := IntWalk.i64_in _ (by omega)
      have e3 : IntKind.i64.wrap ((live.length : Int) - 1 - (k : Int)) = (j : Int) := by rw [IntWalk.i64_in _ (by omega)]; omega
      have j0 : (0 : Int) ≤ (j : Int) := by omega
      have j1 : (j : Int) < (live.length : Int) := by omega
      have hjl : j < live.length := by omega
      have hN := HT.out.next hlt hj
      have rl2 := rl
      obtain ⟨_, _, e', _, _, _, _, h5⟩ := rl2
      cases e'
      obtain ⟨b0, o0, rfl, hb0, hc0⟩ := h5 (by rintro rfl; simp at hlt)
      have ek : CellIs wr b0 (o0 + k) _ := ⟨hb0, hc0 k hlt⟩
      have ej : CellIs wr b0 (o0 + j) _ := ⟨hb0, hc0 j hjl⟩
      have m1 := mem_at hlt (rfl : live[k]?.getD 0 = _); have m2 := mem_at hjl (rfl : live[j]?.getD 0 = _)
      obtain ⟨x, hx⟩ : ∃ x, live[k]?.getD 0 = x := ⟨_, rfl⟩
      obtain ⟨y, hy⟩ : ∃ x, live[j]?.getD 0 = x := ⟨_, rfl⟩
      rw [hx] at ek m1 hN
      rw [hy] at ej m2 hN
      have wx : (Lit.int .i64 x).wf = true := r1.wf x m1
      have wy : (Lit.int .i64 y).wf = true := r1.wf y m2
      have V1 := rev_one HT.out.oA m1; have V2 := rev_one HT.out.oB m2
      have nbR : ¬ b0 = Rb := fun e => rl.off_duo bR _ _ _ _ rfl (by omega) e
      have nbA : ¬ b0 = A0 := fun e => rl.off_duo bA _ _ _ _ rfl (by omega) e
      have nbB : ¬ b0 = B0 := fun e => rl.off_duo bB _ _ _ _ rfl (by omega) e
      have lMA : (Rv.more GA x).length ≤ 256 := Rv.gone_le hN.oA
      have lMB : (Rv.more GB y).length ≤ 256 := Rv.gone_le hN.oB
      obtain ⟨MA, hMA⟩ : ∃ M, Rv.more GA x = M := ⟨_, rfl⟩
      obtain ⟨MB, hMB⟩ : ∃ M, Rv.more GB y = M := ⟨_, rfl⟩
      rw [hMA] at hN lMA V1
      rw [hMB] at hN lMB V2
      have HN := Lib.hid hN; have HV1 := Lib.hid V1; have HV2 := Lib.hid V2; have Wx := Lib.hid wx; have Wy := Lib.hid wy; have HJ := Lib.hid hj
      clear hN V1 V2 wx wy hc0 h5 m1 m2 hx hy hb0 hMA hMB hj
      by_cases hmA : x ∈ GA
      case pos =>
        obtain ⟨f1, f2, f3⟩ := HV1.out.1 hmA
        have F1 := Lib.hid f1; have F2 := Lib.hid f2; have F3A := Lib.hid f3
        clear f1 f2 f3 hmA
        have c0_bA := bA.cell0
        have c1_bA := bA.cell1
        have lt_bA := bA.lt
        have c0_bR := bR.cell0
        have c1_bR := bR.cell1
        have lt_bR := bR.lt
        have ec := ek.2; have el := ek.1
        have nV0 : ¬ A0 = wr.heap.size := by have := lt_bA; omega
        have mV0 : ¬ wr.heap.size = A0 := fun h => nV0 h.symm
        have nV1 : ¬ Rb = wr.heap.size := by have := lt_bR; omega
        have mV1 : ¬ wr.heap.size = Rb := fun h => nV1 h.symm
        have nV2 : ¬ b0 = wr.heap.size := by have := el; omega
        have mV2 : ¬ wr.heap.size = b0 := fun h => nV2 h.symm
        (try go_wp2_with fail)
        go_region_held3 (fun w' => w'.cell? ⟨A0, 0, none⟩ = some (.slice a1 live.length c1) ∧ w'.cell? ⟨A0, 1, none⟩ = some (.slice a2 GA.length c2) ∧ w'.cell? ⟨Rb, 0, none⟩ = some (.slice (some ⟨b0, o0, none⟩) live.length cl) ∧ w'.cell? ⟨b0, o0 + k, none⟩ = some (.int .i64 x))
          (first | go_keep | (refine ⟨?_, ?_, ?_, ?_⟩ <;> assumption) | trivial | (go_simp; done) | (refine ⟨?_, ?_, ?_, ?_⟩ <;> (first | assumption | trivial | (go_simp; done) | (go_simp; assumption))))
          (first
            | (go_at_call 13
               refine (Rev_is _ _ live GA x 270 [] [] 0 0 _ (by first | exact r1 | exact r1.alloc _) (by first | exact r2 | exact r2.alloc _) (by omega) (by omega) Wx.out F1.out F2.out rfl rfl).mono ?_
               rintro e u2 ⟨⟨p12, q12, p22, q22, rfl, s12, s22⟩, hb2⟩
               first | (have hW2 : Below wr.heap.size wr u2 := bel_stp (bel_drew (Below.refl wr.heap.size wr)) hb2) | (have hW2 : Below wr.heap.size wr u2 := bel_stp (bel_drew (bel_alloc (Below.refl wr.heap.size wr) _)) hb2)
               have x0 : u2.cell? ⟨A0, 0, none⟩ = some (.slice a1 live.length c1) := (hW2.cell (p := ⟨A0, 0, none⟩) lt_bA).trans c0_bA
               have x1 : u2.cell? ⟨A0, 1, none⟩ = some (.slice a2 GA.length c2) := (hW2.cell (p := ⟨A0, 1, none⟩) lt_bA).trans c1_bA
               have x2 : u2.cell? ⟨Rb, 0, none⟩ = some (.slice (some ⟨b0, o0, none⟩) live.length cl) := (hW2.cell (p := ⟨Rb, 0, none⟩) lt_bR).trans c0_bR
               have x3 : u2.cell? ⟨b0, o0 + k, none⟩ = some (.int .i64 x) := (hW2.cell (p := ⟨b0, o0 + k, none⟩) el).trans ec
               have nW0 : ¬ A0 = u2.heap.size := by have := lt_bA; have := hW2.size; omega
               have mW0 : ¬ u2.heap.size = A0 := fun h => nW0 h.symm
               have lW0 : A0 < u2.heap.size := by have := lt_bA; have := hW2.size; omega
               have nW1 : ¬ Rb = u2.heap.size := by have := lt_bR; have := hW2.size; omega
               have mW1 : ¬ u2.heap.size = Rb := fun h => nW1 h.symm
               have lW1 : Rb < u2.heap.size := by have := lt_bR; have := hW2.size; omega
               have nW2 : ¬ b0 = u2.heap.size := by have := el; have := hW2.size; omega
               have mW2 : ¬ u2.heap.size = b0 := fun h => nW2 h.symm
               have lW2 : b0 < u2.heap.size := by have := el; have := hW2.size; omega
               first | (have zz : Duo u2 wr.heap.size 24 (.slice none 0 0) (.slice none 0 0) := ?_; rotate_left; (focus (refine Duo.stp ?_ hb2; refine Duo.drew ?_; refine Duo.new' _ _ _ _ _ ?_; rfl)); have z0 := zz.cell0; have z1 := zz.cell1; have z2 := zz.free 0; have z3 := zz.free 1) | skip)
            | fail)
        all_goals
          clear nV0 mV0 nV1 mV1 nV2 mV2 x0 x1 x2 x3 nW0 mW0 lW0 nW1 mW1 lW1 nW2 mW2 lW2
          clear c0_bA c1_bA lt_bA c0_bR c1_bR lt_bR ec el
          first
            | (have bX2 := (zz.set0 (.slice p12 0 q12)).set1 (.slice p22 0 q22)
               have o_s12 := s12.off_duo zz
               have o_s22 := s22.off_duo zz
               have hx : Stp wr _ := bel_set (bel_set hW2 (p := ⟨wr.heap.size, 0, none⟩) (Nat.le_refl _) (.slice p12 0 q12)) (p := ⟨wr.heap.size, 1, none⟩) (Nat.le_refl _) (.slice p22 0 q22)
               replace s12 := (Row.aside s12 (p := ⟨wr.heap.size, 0, none⟩) o_s12 (.slice p12 0 q12)).aside (p := ⟨wr.heap.size, 1, none⟩) o_s12 (.slice p22 0 q22)
               replace s22 := (Row.aside s22 (p := ⟨wr.heap.size, 0, none⟩) o_s22 (.slice p12 0 q12)).aside (p := ⟨wr.heap.size, 1, none⟩) o_s22 (.slice p22 0 q22)
               have fg : Fresh wr wr.heap.size := Nat.le_refl _
               clear zz z0 z1 z2 z3 hb2 hW2 o_s12 o_s22
               generalize hX : World.setCell (World.setCell u2 ⟨wr.heap.size, 0, none⟩ (.slice p12 0 q12)) ⟨wr.heap.size, 1, none⟩ (.slice p22 0 q22) = X2 at *
               generalize hg : wr.heap.size = g2 at *
               clear hX hg)
            | (have bX2 := Duo.new u2 24 (.slice p12 0 q12) (.slice p22 0 q22)
               have hx : Stp wr _ := bel_alloc hW2 (.cells #[(.slice p12 0 q12), (.slice p22 0 q22)] 24)
               replace s12 := s12.alloc (.cells #[(.slice p12 0 q12), (.slice p22 0 q22)] 24)
               replace s22 := s22.alloc (.cells #[(.slice p12 0 q12), (.slice p22 0 q22)] 24)
               have fg : Fresh wr u2.heap.size := hW2.size
               clear hb2 hW2
               generalize hX : World.alloc u2 (.cells #[(.slice p12 0 q12), (.slice p22 0 q22)] 24) = X2 at *
               generalize hg : u2.heap.size = g2 at *
               clear hX hg)
          have hb := hx
          clear hx
          replace bR := bR.stp hb
          replace bA := bA.stp hb
          replace bB := bB.stp hb
          replace rl := rl.stp hb
          replace rg := rg.stp hb
          replace r1 := r1.stp hb
          replace r2 := r2.stp hb
          replace r3 := r3.stp hb
          replace r4 := r4.stp hb
          replace hB := bel_stp hB hb
          replace ek := ek.stp hb
          replace ej := ej.stp hb
          clear hb
          clear fg
          clear F1 F2 s12 s22
          go_wp2_with fail
          clear bX2
          by_cases hmB : y ∈ GB
          case pos =>
            obtain ⟨f1, f2, f3⟩ := HV2.out.1 hmB
            have F1 := Lib.hid f1; have F2 := Lib.hid f2; have F3B := Lib.hid f3
            clear f1 f2 f3 hmB
            have c0_bB := bB.cell0
            have c1_bB := bB.cell1
            have lt_bB := bB.lt
            have c0_bR := bR.cell0
            have c1_bR := bR.cell1
            have lt_bR := bR.lt
            have ec := ej.2; have el := ej.1
            have nV0 : ¬ B0 = X2.heap.size := by have := lt_bB; omega
            have mV0 : ¬ X2.heap.size = B0 := fun h => nV0 h.symm
            have nV1 : ¬ Rb = X2.heap.size := by have := lt_bR; omega
            have mV1 : ¬ X2.heap.size = Rb := fun h => nV1 h.symm
            have nV2 : ¬ b0 = X2.heap.size := by have := el; omega
            have mV2 : ¬ X2.heap.size = b0 := fun h => nV2 h.symm
            (try go_wp2_with fail)
            go_region_held3 (fun w' => w'.cell? ⟨B0, 0, none⟩ = some (.slice a3 live.length c3) ∧ w'.cell? ⟨B0, 1, none⟩ = some (.slice a4 GB.length c4) ∧ w'.cell? ⟨Rb, 0, none⟩ = some (.slice (some ⟨b0, o0, none⟩) live.length cl) ∧ w'.cell? ⟨b0, o0 + j, none⟩ = some (.int .i64 y))
              (first | go_keep | (refine ⟨?_, ?_, ?_, ?_⟩ <;> assumption) | trivial | (go_simp; done) | (refine ⟨?_, ?_, ?_, ?_⟩ <;> (first | assumption | trivial | (go_simp; done) | (go_simp; assumption))))
              (first
                | (go_at_call 13
                   refine (Rev_is _ _ live GB y 270 [] [] 0 0 _ (by first | exact r3 | exact r3.alloc _) (by first | exact r4 | exact r4.alloc _) (by omega) (by omega) Wy.out F1.out F2.out rfl rfl).mono ?_
                   rintro e u4 ⟨⟨p14, q14, p24, q24, rfl, s14, s24⟩, hb2⟩
                   first | (have hW2 : Below X2.heap.size X2 u4 := bel_stp (bel_drew (Below.refl X2.heap.size X2)) hb2) | (have hW2 : Below X2.heap.size X2 u4 := bel_stp (bel_drew (bel_alloc (Below.refl X2.heap.size X2) _)) hb2)
                   have x0 : u4.cell? ⟨B0, 0, none⟩ = some (.slice a3 live.length c3) := (hW2.cell (p := ⟨B0, 0, none⟩) lt_bB).trans c0_bB
                   have x1 : u4.cell? ⟨B0, 1, none⟩ = some (.slice a4 GB.length c4) := (hW2.cell (p := ⟨B0, 1, none⟩) lt_bB).trans c1_bB
                   have x2 : u4.cell? ⟨Rb, 0, none⟩ = some (.slice (some ⟨b0, o0, none⟩) live.length cl) := (hW2.cell (p := ⟨Rb, 0, none⟩) lt_bR).trans c0_bR
                   have x3 : u4.cell? ⟨b0, o0 + j, none⟩ = some (.int .i64 y) := (hW2.cell (p := ⟨b0, o0 + j, none⟩) el).trans ec
                   have nW0 : ¬ B0 = u4.heap.size := by have := lt_bB; have := hW2.size; omega
                   have mW0 : ¬ u4.heap.size = B0 := fun h => nW0 h.symm
                   have lW0 : B0 < u4.heap.size := by have := lt_bB; have := hW2.size; omega
                   have nW1 : ¬ Rb = u4.heap.size := by have := lt_bR; have := hW2.size; omega
                   have mW1 : ¬ u4.heap.size = Rb := fun h => nW1 h.symm
                   have lW1 : Rb < u4.heap.size := by have := lt_bR; have := hW2.size; omega
                   have nW2 : ¬ b0 = u4.heap.size := by have := el; have := hW2.size; omega
                   have mW2 : ¬ u4.heap.size = b0 := fun h => nW2 h.symm
                   have lW2 : b0 < u4.heap.size := by have := el; have := hW2.size; omega
                   first | (have zz : Duo u4 X2.heap.size 24 (.slice none 0 0) (.slice none 0 0) := ?_; rotate_left; (focus (refine Duo.stp ?_ hb2; refine Duo.drew ?_; refine Duo.new' _ _ _ _ _ ?_; rfl)); have z0 := zz.cell0; have z1 := zz.cell1; have z2 := zz.free 0; have z3 := zz.free 1) | skip)
                | fail)
            all_goals
              clear nV0 mV0 nV1 mV1 nV2 mV2 x0 x1 x2 x3 nW0 mW0 lW0 nW1 mW1 lW1 nW2 mW2 lW2
              clear c0_bB c1_bB lt_bB c0_bR c1_bR lt_bR ec el
              first
                | (have bX4 := (zz.set0 (.slice p14 0 q14)).set1 (.slice p24 0 q24)
                   have o_s14 := s14.off_duo zz
                   have o_s24 := s24.off_duo zz
                   have hx : Stp X2 _ := bel_set (bel_set hW2 (p := ⟨X2.heap.size, 0, none⟩) (Nat.le_refl _) (.slice p14 0 q14)) (p := ⟨X2.heap.size, 1, none⟩) (Nat.le_refl _) (.slice p24 0 q24)
                   replace s14 := (Row.aside s14 (p := ⟨X2.heap.size, 0, none⟩) o_s14 (.slice p14 0 q14)).aside (p := ⟨X2.heap.size, 1, none⟩) o_s14 (.slice p24 0 q24)
                   replace s24 := (Row.aside s24 (p := ⟨X2.heap.size, 0, none⟩) o_s24 (.slice p14 0 q14)).aside (p := ⟨X2.heap.size, 1, none⟩) o_s24 (.slice p24 0 q24)
                   have fg : Fresh X2 X2.heap.size := Nat.le_refl _
                   clear zz z0 z1 z2 z3 hb2 hW2 o_s14 o_s24
                   generalize hX : World.setCell (World.setCell u4 ⟨X2.heap.size, 0, none⟩ (.slice p14 0 q14)) ⟨X2.heap.size, 1, none⟩ (.slice p24 0 q24) = X4 at *
                   generalize hg : X2.heap.size = g4 at *
                   clear hX hg)
                | (have bX4 := Duo.new u4 24 (.slice p14 0 q14) (.slice p24 0 q24)
                   have hx : Stp X2 _ := bel_alloc hW2 (.cells #[(.slice p14 0 q14), (.slice p24 0 q24)] 24)
                   replace s14 := s14.alloc (.cells #[(.slice p14 0 q14), (.slice p24 0 q24)] 24)
                   replace s24 := s24.alloc (.cells #[(.slice p14 0 q14), (.slice p24 0 q24)] 24)
                   have fg : Fresh X2 u4.heap.size := hW2.size
                   clear hb2 hW2
                   generalize hX : World.alloc u4 (.cells #[(.slice p14 0 q14), (.slice p24 0 q24)] 24) = X4 at *
                   generalize hg : u4.heap.size = g4 at *
                   clear hX hg)
              have hb := hx
              clear hx
              replace bR := bR.stp hb
              replace bA := bA.stp hb
              replace bB := bB.stp hb
              replace rl := rl.stp hb
              replace rg := rg.stp hb
              replace r1 := r1.stp hb
              replace r2 := r2.stp hb
              replace r3 := r3.stp hb
              replace r4 := r4.stp hb
              replace hB := bel_stp hB hb
              replace ek := ek.stp hb
              replace ej := ej.stp hb
              clear hb
              clear fg
              clear F1 F2 s14 s24
              go_wp2_with fail
              go_roundw
              case rel =>
                have hN := HN.out
                rw [F3A.out] at hN
                rw [F3B.out] at hN
                exact ⟨k + 1, GA, GB, _, _, _, _, _, _, _, _, by go_num, by omega, bR, bA, bB, rl, rg, r1, r2, r3, r4, hB, Lib.hid hN⟩
              case measure => simp [intOf]; omega
          obtain ⟨f1, f2⟩ := HV2.out.2 hmB
          have F1 := Lib.hid f1; have F2 := Lib.hid f2
          clear f1 f2 hmB
          have c0_bB := bB.cell0
          have c1_bB := bB.cell1
          have lt_bB := bB.lt
          have c0_bR := bR.cell0
          have c1_bR := bR.cell1
          have lt_bR := bR.lt
          have ec := ej.2; have el := ej.1
          have nV0 : ¬ B0 = X2.heap.size := by have := lt_bB; omega
          have mV0 : ¬ X2.heap.size = B0 := fun h => nV0 h.symm
          have nV1 : ¬ Rb = X2.heap.size := by have := lt_bR; omega
          have mV1 : ¬ X2.heap.size = Rb := fun h => nV1 h.symm
          have nV2 : ¬ b0 = X2.heap.size := by have := el; omega
          have mV2 : ¬ X2.heap.size = b0 := fun h => nV2 h.symm
          (try go_wp2_with fail)
          go_region_held3 (fun w' => w'.cell? ⟨B0, 0, none⟩ = some (.slice a3 live.length c3) ∧ w'.cell? ⟨B0, 1, none⟩ = some (.slice a4 GB.length c4) ∧ w'.cell? ⟨Rb, 0, none⟩ = some (.slice (some ⟨b0, o0, none⟩) live.length cl) ∧ w'.cell? ⟨b0, o0 + j, none⟩ = some (.int .i64 y))
            (first | go_keep | (refine ⟨?_, ?_, ?_, ?_⟩ <;> assumption) | trivial | (go_simp; done) | (refine ⟨?_, ?_, ?_, ?_⟩ <;> (first | assumption | trivial | (go_simp; done) | (go_simp; assumption))))
            (first
              | (go_at_call 13
                 refine (Rev_is _ _ live GB y 0 live MB live.length MB.length _ (by first | exact r3 | exact r3.alloc _) (by first | exact r4 | exact r4.alloc _) (by omega) (by omega) Wy.out F1.out F2.out rfl rfl).mono ?_
                 rintro e u4 ⟨⟨p14, q14, p24, q24, rfl, s14, s24⟩, hb2⟩
                 first | (have hW2 : Below X2.heap.size X2 u4 := bel_stp (bel_drew (Below.refl X2.heap.size X2)) hb2) | (have hW2 : Below X2.heap.size X2 u4 := bel_stp (bel_drew (bel_alloc (Below.refl X2.heap.size X2) _)) hb2)
                 have x0 : u4.cell? ⟨B0, 0, none⟩ = some (.slice a3 live.length c3) := (hW2.cell (p := ⟨B0, 0, none⟩) lt_bB).trans c0_bB
                 have x1 : u4.cell? ⟨B0, 1, none⟩ = some (.slice a4 GB.length c4) := (hW2.cell (p := ⟨B0, 1, none⟩) lt_bB).trans c1_bB
                 have x2 : u4.cell? ⟨Rb, 0, none⟩ = some (.slice (some ⟨b0, o0, none⟩) live.length cl) := (hW2.cell (p := ⟨Rb, 0, none⟩) lt_bR).trans c0_bR
                 have x3 : u4.cell? ⟨b0, o0 + j, none⟩ = some (.int .i64 y) := (hW2.cell (p := ⟨b0, o0 + j, none⟩) el).trans ec
                 have nW0 : ¬ B0 = u4.heap.size := by have := lt_bB; have := hW2.size; omega
                 have mW0 : ¬ u4.heap.size = B0 := fun h => nW0 h.symm
                 have lW0 : B0 < u4.heap.size := by have := lt_bB; have := hW2.size; omega
                 have nW1 : ¬ Rb = u4.heap.size := by have := lt_bR; have := hW2.size; omega
                 have mW1 : ¬ u4.heap.size = Rb := fun h => nW1 h.symm
                 have lW1 : Rb < u4.heap.size := by have := lt_bR; have := hW2.size; omega
                 have nW2 : ¬ b0 = u4.heap.size := by have := el; have := hW2.size; omega
                 have mW2 : ¬ u4.heap.size = b0 := fun h => nW2 h.symm
                 have lW2 : b0 < u4.heap.size := by have := el; have := hW2.size; omega
                 first | (have zz : Duo u4 X2.heap.size 24 (.slice none 0 0) (.slice none 0 0) := ?_; rotate_left; (focus (refine Duo.stp ?_ hb2; refine Duo.drew ?_; refine Duo.new' _ _ _ _ _ ?_; rfl)); have z0 := zz.cell0; have z1 := zz.cell1; have z2 := zz.free 0; have z3 := zz.free 1) | skip)
              | fail)
          all_goals
            clear nV0 mV0 nV1 mV1 nV2 mV2 x0 x1 x2 x3 nW0 mW0 lW0 nW1 mW1 lW1 nW2 mW2 lW2
            clear c0_bB c1_bB lt_bB c0_bR c1_bR lt_bR ec el
            first
              | (have bX4 := (zz.set0 (.slice p14 live.length q14)).set1 (.slice p24 MB.length q24)
                 have o_s14 := s14.off_duo zz
                 have o_s24 := s24.off_duo zz
                 have hx : Stp X2 _ := bel_set (bel_set hW2 (p := ⟨X2.heap.size, 0, none⟩) (Nat.le_refl _) (.slice p14 live.length q14)) (p := ⟨X2.heap.size, 1, none⟩) (Nat.le_refl _) (.slice p24 MB.length q24)
                 replace s14 := (Row.aside s14 (p := ⟨X2.heap.size, 0, none⟩) o_s14 (.slice p14 live.length q14)).aside (p := ⟨X2.heap.size, 1, none⟩) o_s14 (.slice p24 MB.length q24)
                 replace s24 := (Row.aside s24 (p := ⟨X2.heap.size, 0, none⟩) o_s24 (.slice p14 live.length q14)).aside (p := ⟨X2.heap.size, 1, none⟩) o_s24 (.slice p24 MB.length q24)
                 have fg : Fresh X2 X2.heap.size := Nat.le_refl _
                 clear zz z0 z1 z2 z3 hb2 hW2 o_s14 o_s24
                 generalize hX : World.setCell (World.setCell u4 ⟨X2.heap.size, 0, none⟩ (.slice p14 live.length q14)) ⟨X2.heap.size, 1, none⟩ (.slice p24 MB.length q24) = X4 at *
                 generalize hg : X2.heap.size = g4 at *
                 clear hX hg)
              | (have bX4 := Duo.new u4 24 (.slice p14 live.length q14) (.slice p24 MB.length q24)
                 have hx : Stp X2 _ := bel_alloc hW2 (.cells #[(.slice p14 live.length q14), (.slice p24 MB.length q24)] 24)
                 replace s14 := s14.alloc (.cells #[(.slice p14 live.length q14), (.slice p24 MB.length q24)] 24)
                 replace s24 := s24.alloc (.cells #[(.slice p14 live.length q14), (.slice p24 MB.length q24)] 24)
                 have fg : Fresh X2 u4.heap.size := hW2.size
                 clear hb2 hW2
                 generalize hX : World.alloc u4 (.cells #[(.slice p14 live.length q14), (.slice p24 MB.length q24)] 24) = X4 at *
                 generalize hg : u4.heap.size = g4 at *
                 clear hX hg)
            have hb := hx
            clear hx
            replace bR := bR.stp hb
            replace bA := bA.stp hb
            replace bB := bB.stp hb
            replace rl := rl.stp hb
            replace rg := rg.stp hb
            replace r1 := r1.stp hb
            replace r2 := r2.stp hb
            replace r3 := r3.stp hb
            replace r4 := r4.stp hb
            replace hB := bel_stp hB hb
            replace ek := ek.stp hb
            replace ej := ej.stp hb
            clear hb
            clear fg
            clear F1 F2
            have c0_bB := bB.cell0
            have c1_bB := bB.cell1
            have lt_bB := bB.lt
            have c0_bX4 := bX4.cell0
            have c1_bX4 := bX4.cell1
            have lt_bX4 := bX4.lt
            have fr0 := bB.free 0; have fr1 := bB.free 1
            go_wp2_with fail
            clear fr0 fr1 c0_bB c1_bB lt_bB c0_bX4 c1_bX4 lt_bX4
            replace bR := (bR.other (p := ⟨B0, 0, none⟩) (fun h => nRB h.symm) (.slice p14 live.length q14)).other (p := ⟨B0, 1, none⟩) (fun h => nRB h.symm) (.slice p24 MB.length q24)
            replace bA := (bA.other (p := ⟨B0, 0, none⟩) (fun h => nAB h.symm) (.slice p14 live.length q14)).other (p := ⟨B0, 1, none⟩) (fun h => nAB h.symm) (.slice p24 MB.length q24)
            have o_o := rl.off_duo bB
            replace rl := (rl.aside (p := ⟨B0, 0, none⟩) o_o (.slice p14 live.length q14)).aside (p := ⟨B0, 1, none⟩) o_o (.slice p24 MB.length q24)
            clear o_o
            have o_o := rg.off_duo bB
            replace rg := (rg.aside (p := ⟨B0, 0, none⟩) o_o (.slice p14 live.length q14)).aside (p := ⟨B0, 1, none⟩) o_o (.slice p24 MB.length q24)
            clear o_o
            have o_o := r1.off_duo bB
            replace r1 := (r1.aside (p := ⟨B0, 0, none⟩) o_o (.slice p14 live.length q14)).aside (p := ⟨B0, 1, none⟩) o_o (.slice p24 MB.length q24)
            clear o_o
            have o_o := r2.off_duo bB
            replace r2 := (r2.aside (p := ⟨B0, 0, none⟩) o_o (.slice p14 live.length q14)).aside (p := ⟨B0, 1, none⟩) o_o (.slice p24 MB.length q24)
            clear o_o
            have o_o := r3.off_duo bB
            replace r3 := (r3.aside (p := ⟨B0, 0, none⟩) o_o (.slice p14 live.length q14)).aside (p := ⟨B0, 1, none⟩) o_o (.slice p24 MB.length q24)
            clear o_o
            have o_o := r4.off_duo bB
            replace r4 := (r4.aside (p := ⟨B0, 0, none⟩) o_o (.slice p14 live.length q14)).aside (p := ⟨B0, 1, none⟩) o_o (.slice p24 MB.length q24)
            clear o_o
            replace hB := bel_set (bel_set hB (p := ⟨B0, 0, none⟩) wB'.out (.slice p14 live.length q14)) (p := ⟨B0, 1, none⟩) wB'.out (.slice p24 MB.length q24)
            replace ek := (ek.other (p := ⟨B0, 0, none⟩) (fun h => nbB h.symm) (.slice p14 live.length q14)).other (p := ⟨B0, 1, none⟩) (fun h => nbB h.symm) (.slice p24 MB.length q24)
            replace ej := (ej.other (p := ⟨B0, 0, none⟩) (fun h => nbB h.symm) (.slice p14 live.length q14)).other (p := ⟨B0, 1, none⟩) (fun h => nbB h.symm) (.slice p24 MB.length q24)
            have o_o := s14.off_duo bB
            replace s14 := (s14.aside (p := ⟨B0, 0, none⟩) o_o (.slice p14 live.length q14)).aside (p := ⟨B0, 1, none⟩) o_o (.slice p24 MB.length q24)
            clear o_o
            have o_o := s24.off_duo bB
            replace s24 := (s24.aside (p := ⟨B0, 0, none⟩) o_o (.slice p14 live.length q14)).aside (p := ⟨B0, 1, none⟩) o_o (.slice p24 MB.length q24)
            clear o_o
            replace bB := (bB.set0 (.slice p14 live.length q14)).set1 (.slice p24 MB.length q24)
            clear bX4
            generalize hX : World.setCell (World.setCell X4 ⟨B0, 0, none⟩ (.slice p14 live.length q14)) ⟨B0, 1, none⟩ (.slice p24 MB.length q24) = Y4 at *
            clear hX
            (try go_wp2_with fail)
            go_roundw
            case rel =>
              have hN := HN.out
              rw [F3A.out] at hN
              exact ⟨k + 1, GA, MB, _, _, _, _, _, _, _, _, by go_num, by omega, bR, bA, bB, rl, rg, r1, r2, s14, s24, hB, Lib.hid hN⟩
            case measure => simp [intOf]; omega
      obtain ⟨f1, f2⟩ := HV1.out.2 hmA
      have F1 := Lib.hid f1; have F2 := Lib.hid f2
      clear f1 f2 hmA
      have c0_bA := bA.cell0
      have c1_bA := bA.cell1
      have lt_bA := bA.lt
      have c0_bR := bR.cell0
      have c1_bR := bR.cell1
      have lt_bR := bR.lt
      have ec := ek.2; have el := ek.1
      have nV0 : ¬ A0 = wr.heap.size := by have := lt_bA; omega
      have mV0 : ¬ wr.heap.size = A0 := fun h => nV0 h.symm
      have nV1 : ¬ Rb = wr.heap.size := by have := lt_bR; omega
      have mV1 : ¬ wr.heap.size = Rb := fun h => nV1 h.symm
      have nV2 : ¬ b0 = wr.heap.size := by have := el; omega
      have mV2 : ¬ wr.heap.size = b0 := fun h => nV2 h.symm
      (try go_wp2_with fail)
      go_region_held3 (fun w' => w'.cell? ⟨A0, 0, none⟩ = some (.slice a1 live.length c1) ∧ w'.cell? ⟨A0, 1, none⟩ = some (.slice a2 GA.length c2) ∧ w'.cell? ⟨Rb, 0, none⟩ = some (.slice (some ⟨b0, o0, none⟩) live.length cl) ∧ w'.cell? ⟨b0, o0 + k, none⟩ = some (.int .i64 x))
        (first | go_keep | (refine ⟨?_, ?_, ?_, ?_⟩ <;> assumption) | trivial | (go_simp; done) | (refine ⟨?_, ?_, ?_, ?_⟩ <;> (first | assumption | trivial | (go_simp; done) | (go_simp; assumption))))
        (first
          | (go_at_call 13
             refine (Rev_is _ _ live GA x 0 live MA live.length MA.length _ (by first | exact r1 | exact r1.alloc _) (by first | exact r2 | exact r2.alloc _) (by omega) (by omega) Wx.out F1.out F2.out rfl rfl).mono ?_
             rintro e u2 ⟨⟨p12, q12, p22, q22, rfl, s12, s22⟩, hb2⟩
             first | (have hW2 : Below wr.heap.size wr u2 := bel_stp (bel_drew (Below.refl wr.heap.size wr)) hb2) | (have hW2 : Below wr.heap.size wr u2 := bel_stp (bel_drew (bel_alloc (Below.refl wr.heap.size wr) _)) hb2)
             have x0 : u2.cell? ⟨A0, 0, none⟩ = some (.slice a1 live.length c1) := (hW2.cell (p := ⟨A0, 0, none⟩) lt_bA).trans c0_bA
             have x1 : u2.cell? ⟨A0, 1, none⟩ = some (.slice a2 GA.length c2) := (hW2.cell (p := ⟨A0, 1, none⟩) lt_bA).trans c1_bA
             have x2 : u2.cell? ⟨Rb, 0, none⟩ = some (.slice (some ⟨b0, o0, none⟩) live.length cl) := (hW2.cell (p := ⟨Rb, 0, none⟩) lt_bR).trans c0_bR
             have x3 : u2.cell? ⟨b0, o0 + k, none⟩ = some (.int .i64 x) := (hW2.cell (p := ⟨b0, o0 + k, none⟩) el).trans ec
             have nW0 : ¬ A0 = u2.heap.size := by have := lt_bA; have := hW2.size; omega
             have mW0 : ¬ u2.heap.size = A0 := fun h => nW0 h.symm
             have lW0 : A0 < u2.heap.size := by have := lt_bA; have := hW2.size; omega
             have nW1 : ¬ Rb = u2.heap.size := by have := lt_bR; have := hW2.size; omega
             have mW1 : ¬ u2.heap.size = Rb := fun h => nW1 h.symm
             have lW1 : Rb < u2.heap.size := by have := lt_bR; have := hW2.size; omega
             have nW2 : ¬ b0 = u2.heap.size := by have := el; have := hW2.size; omega
             have mW2 : ¬ u2.heap.size = b0 := fun h => nW2 h.symm
             have lW2 : b0 < u2.heap.size := by have := el; have := hW2.size; omega
             first | (have zz : Duo u2 wr.heap.size 24 (.slice none 0 0) (.slice none 0 0) := ?_; rotate_left; (focus (refine Duo.stp ?_ hb2; refine Duo.drew ?_; refine Duo.new' _ _ _ _ _ ?_; rfl)); have z0 := zz.cell0; have z1 := zz.cell1; have z2 := zz.free 0; have z3 := zz.free 1) | skip)
          | fail)
      all_goals
        clear nV0 mV0 nV1 mV1 nV2 mV2 x0 x1 x2 x3 nW0 mW0 lW0 nW1 mW1 lW1 nW2 mW2 lW2
        clear c0_bA c1_bA lt_bA c0_bR c1_bR lt_bR ec el
        first
          | (have bX2 := (zz.set0 (.slice p12 live.length q12)).set1 (.slice p22 MA.length q22)
             have o_s12 := s12.off_duo zz
             have o_s22 := s22.off_duo zz
             have hx : Stp wr _ := bel_set (bel_set hW2 (p := ⟨wr.heap.size, 0, none⟩) (Nat.le_refl _) (.slice p12 live.length q12)) (p := ⟨wr.heap.size, 1, none⟩) (Nat.le_refl _) (.slice p22 MA.length q22)
             replace s12 := (Row.aside s12 (p := ⟨wr.heap.size, 0, none⟩) o_s12 (.slice p12 live.length q12)).aside (p := ⟨wr.heap.size, 1, none⟩) o_s12 (.slice p22 MA.length q22)
             replace s22 := (Row.aside s22 (p := ⟨wr.heap.size, 0, none⟩) o_s22 (.slice p12 live.length q12)).aside (p := ⟨wr.heap.size, 1, none⟩) o_s22 (.slice p22 MA.length q22)
             have fg : Fresh wr wr.heap.size := Nat.le_refl _
             clear zz z0 z1 z2 z3 hb2 hW2 o_s12 o_s22
             generalize hX : World.setCell (World.setCell u2 ⟨wr.heap.size, 0, none⟩ (.slice p12 live.length q12)) ⟨wr.heap.size, 1, none⟩ (.slice p22 MA.length q22) = X2 at *
             generalize hg : wr.heap.size = g2 at *
             clear hX hg)
          | (have bX2 := Duo.new u2 24 (.slice p12 live.length q12) (.slice p22 MA.length q22)
             have hx : Stp wr _ := bel_alloc hW2 (.cells #[(.slice p12 live.length q12), (.slice p22 MA.length q22)] 24)
             replace s12 := s12.alloc (.cells #[(.slice p12 live.length q12), (.slice p22 MA.length q22)] 24)
             replace s22 := s22.alloc (.cells #[(.slice p12 live.length q12), (.slice p22 MA.length q22)] 24)
             have fg : Fresh wr u2.heap.size := hW2.size
             clear hb2 hW2
             generalize hX : World.alloc u2 (.cells #[(.slice p12 live.length q12), (.slice p22 MA.length q22)] 24) = X2 at *
             generalize hg : u2.heap.size = g2 at *
             clear hX hg)
        have hb := hx
        clear hx
        replace bR := bR.stp hb
        replace bA := bA.stp hb
        replace bB := bB.stp hb
        replace rl := rl.stp hb
        replace rg := rg.stp hb
        replace r1 := r1.stp hb
        replace r2 := r2.stp hb
        replace r3 := r3.stp hb
        replace r4 := r4.stp hb
        replace hB := bel_stp hB hb
        replace ek := ek.stp hb
        replace ej := ej.stp hb
        clear hb
        clear fg
        clear F1 F2
        have c0_bA := bA.cell0
        have c1_bA := bA.cell1
        have lt_bA := bA.lt
        have c0_bX2 := bX2.cell0
        have c1_bX2 := bX2.cell1
        have lt_bX2 := bX2.lt
        have fr0 := bA.free 0; have fr1 := bA.free 1
        go_wp2_with fail
        clear fr0 fr1 c0_bA c1_bA lt_bA c0_bX2 c1_bX2 lt_bX2
        replace bR := (bR.other (p := ⟨A0, 0, none⟩) (fun h => nRA h.symm) (.slice p12 live.length q12)).other (p := ⟨A0, 1, none⟩) (fun h => nRA h.symm) (.slice p22 MA.length q22)
        replace bB := (bB.other (p := ⟨A0, 0, none⟩) nAB (.slice p12 live.length q12)).other (p := ⟨A0, 1, none⟩) nAB (.slice p22 MA.length q22)
        have o_o := rl.off_duo bA
        replace rl := (rl.aside (p := ⟨A0, 0, none⟩) o_o (.slice p12 live.length q12)).aside (p := ⟨A0, 1, none⟩) o_o (.slice p22 MA.length q22)
        clear o_o
        have o_o := rg.off_duo bA
        replace rg := (rg.aside (p := ⟨A0, 0, none⟩) o_o (.slice p12 live.length q12)).aside (p := ⟨A0, 1, none⟩) o_o (.slice p22 MA.length q22)
        clear o_o
        have o_o := r1.off_duo bA
        replace r1 := (r1.aside (p := ⟨A0, 0, none⟩) o_o (.slice p12 live.length q12)).aside (p := ⟨A0, 1, none⟩) o_o (.slice p22 MA.length q22)
        clear o_o
        have o_o := r2.off_duo bA
        replace r2 := (r2.aside (p := ⟨A0, 0, none⟩) o_o (.slice p12 live.length q12)).aside (p := ⟨A0, 1, none⟩) o_o (.slice p22 MA.length q22)
        clear o_o
        have o_o := r3.off_duo bA
        replace r3 := (r3.aside (p := ⟨A0, 0, none⟩) o_o (.slice p12 live.length q12)).aside (p := ⟨A0, 1, none⟩) o_o (.slice p22 MA.length q22)
        clear o_o
        have o_o := r4.off_duo bA
        replace r4 := (r4.aside (p := ⟨A0, 0, none⟩) o_o (.slice p12 live.length q12)).aside (p := ⟨A0, 1, none⟩) o_o (.slice p22 MA.length q22)
        clear o_o
        replace hB := bel_set (bel_set hB (p := ⟨A0, 0, none⟩) wA'.out (.slice p12 live.length q12)) (p := ⟨A0, 1, none⟩) wA'.out (.slice p22 MA.length q22)
        replace ek := (ek.other (p := ⟨A0, 0, none⟩) (fun h => nbA h.symm) (.slice p12 live.length q12)).other (p := ⟨A0, 1, none⟩) (fun h => nbA h.symm) (.slice p22 MA.length q22)
        replace ej := (ej.other (p := ⟨A0, 0, none⟩) (fun h => nbA h.symm) (.slice p12 live.length q12)).other (p := ⟨A0, 1, none⟩) (fun h => nbA h.symm) (.slice p22 MA.length q22)
        have o_o := s12.off_duo bA
        replace s12 := (s12.aside (p := ⟨A0, 0, none⟩) o_o (.slice p12 live.length q12)).aside (p := ⟨A0, 1, none⟩) o_o (.slice p22 MA.length q22)
        clear o_o
        have o_o := s22.off_duo bA
        replace s22 := (s22.aside (p := ⟨A0, 0, none⟩) o_o (.slice p12 live.length q12)).aside (p := ⟨A0, 1, none⟩) o_o (.slice p22 MA.length q22)
        clear o_o
        replace bA := (bA.set0 (.slice p12 live.length q12)).set1 (.slice p22 MA.length q22)
        clear bX2
        generalize hX : World.setCell (World.setCell X2 ⟨A0, 0, none⟩ (.slice p12 live.length q12)) ⟨A0, 1, none⟩ (.slice p22 MA.length q22) = Y2 at *
        clear hX
        by_cases hmB : y ∈ GB
        case pos =>
          obtain ⟨f1, f2, f3⟩ := HV2.out.1 hmB
          have F1 := Lib.hid f1; have F2 := Lib.hid f2; have F3B := Lib.hid f3
          clear f1 f2 f3 hmB
          have c0_bB := bB.cell0
          have c1_bB := bB.cell1
          have lt_bB := bB.lt
          have c0_bR := bR.cell0
          have c1_bR := bR.cell1
          have lt_bR := bR.lt
          have ec := ej.2; have el := ej.1
          have nV0 : ¬ B0 = Y2.heap.size := by have := lt_bB; omega
          have mV0 : ¬ Y2.heap.size = B0 := fun h => nV0 h.symm
          have nV1 : ¬ Rb = Y2.heap.size := by have := lt_bR; omega
          have mV1 : ¬ Y2.heap.size = Rb := fun h => nV1 h.symm
          have nV2 : ¬ b0 = Y2.heap.size := by have := el; omega
          have mV2 : ¬ Y2.heap.size = b0 := fun h => nV2 h.symm
          (try go_wp2_with fail)
          go_region_held3 (fun w' => w'.cell? ⟨B0, 0, none⟩ = some (.slice a3 live.length c3) ∧ w'.cell? ⟨B0, 1, none⟩ = some (.slice a4 GB.length c4) ∧ w'.cell? ⟨Rb, 0, none⟩ = some (.slice (some ⟨b0, o0, none⟩) live.length cl) ∧ w'.cell? ⟨b0, o0 + j, none⟩ = some (.int .i64 y))
            (first | go_keep | (refine ⟨?_, ?_, ?_, ?_⟩ <;> assumption) | trivial | (go_simp; done) | (refine ⟨?_, ?_, ?_, ?_⟩ <;> (first | assumption | trivial | (go_simp; done) | (go_simp; assumption))))
            (first
              | (go_at_call 13
                 refine (Rev_is _ _ live GB y 270 [] [] 0 0 _ (by first | exact r3 | exact r3.alloc _) (by first | exact r4 | exact r4.alloc _) (by omega) (by omega) Wy.out F1.out F2.out rfl rfl).mono ?_
                 rintro e u4 ⟨⟨p14, q14, p24, q24, rfl, s14, s24⟩, hb2⟩
                 first | (have hW2 : Below Y2.heap.size Y2 u4 := bel_stp (bel_drew (Below.refl Y2.heap.size Y2)) hb2) | (have hW2 : Below Y2.heap.size Y2 u4 := bel_stp (bel_drew (bel_alloc (Below.refl Y2.heap.size Y2) _)) hb2)
                 have x0 : u4.cell? ⟨B0, 0, none⟩ = some (.slice a3 live.length c3) := (hW2.cell (p := ⟨B0, 0, none⟩) lt_bB).trans c0_bB
                 have x1 : u4.cell? ⟨B0, 1, none⟩ = some (.slice a4 GB.length c4) := (hW2.cell (p := ⟨B0, 1, none⟩) lt_bB).trans c1_bB
                 have x2 : u4.cell? ⟨Rb, 0, none⟩ = some (.slice (some ⟨b0, o0, none⟩) live.length cl) := (hW2.cell (p := ⟨Rb, 0, none⟩) lt_bR).trans c0_bR
                 have x3 : u4.cell? ⟨b0, o0 + j, none⟩ = some (.int .i64 y) := (hW2.cell (p := ⟨b0, o0 + j, none⟩) el).trans ec
                 have nW0 : ¬ B0 = u4.heap.size := by have := lt_bB; have := hW2.size; omega
                 have mW0 : ¬ u4.heap.size = B0 := fun h => nW0 h.symm
                 have lW0 : B0 < u4.heap.size := by have := lt_bB; have := hW2.size; omega
                 have nW1 : ¬ Rb = u4.heap.size := by have := lt_bR; have := hW2.size; omega
                 have mW1 : ¬ u4.heap.size = Rb := fun h => nW1 h.symm
                 have lW1 : Rb < u4.heap.size := by have := lt_bR; have := hW2.size; omega
                 have nW2 : ¬ b0 = u4.heap.size := by have := el; have := hW2.size; omega
                 have mW2 : ¬ u4.heap.size = b0 := fun h => nW2 h.symm
                 have lW2 : b0 < u4.heap.size := by have := el; have := hW2.size; omega
                 first | (have zz : Duo u4 Y2.heap.size 24 (.slice none 0 0) (.slice none 0 0) := ?_; rotate_left; (focus (refine Duo.stp ?_ hb2; refine Duo.drew ?_; refine Duo.new' _ _ _ _ _ ?_; rfl)); have z0 := zz.cell0; have z1 := zz.cell1; have z2 := zz.free 0; have z3 := zz.free 1) | skip)
              | fail)
          all_goals
            clear nV0 mV0 nV1 mV1 nV2 mV2 x0 x1 x2 x3 nW0 mW0 lW0 nW1 mW1 lW1 nW2 mW2 lW2
            clear c0_bB c1_bB lt_bB c0_bR c1_bR lt_bR ec el
            first
              | (have bX4 := (zz.set0 (.slice p14 0 q14)).set1 (.slice p24 0 q24)
                 have o_s14 := s14.off_duo zz
                 have o_s24 := s24.off_duo zz
                 have hx : Stp Y2 _ := bel_set (bel_set hW2 (p := ⟨Y2.heap.size, 0, none⟩) (Nat.le_refl _) (.slice p14 0 q14)) (p := ⟨Y2.heap.size, 1, none⟩) (Nat.le_refl _) (.slice p24 0 q24)
                 replace s14 := (Row.aside s14 (p := ⟨Y2.heap.size, 0, none⟩) o_s14 (.slice p14 0 q14)).aside (p := ⟨Y2.heap.size, 1, none⟩) o_s14 (.slice p24 0 q24)
                 replace s24 := (Row.aside s24 (p := ⟨Y2.heap.size, 0, none⟩) o_s24 (.slice p14 0 q14)).aside (p := ⟨Y2.heap.size, 1, none⟩) o_s24 (.slice p24 0 q24)
                 have fg : Fresh Y2 Y2.heap.size := Nat.le_refl _
                 clear zz z0 z1 z2 z3 hb2 hW2 o_s14 o_s24
                 generalize hX : World.setCell (World.setCell u4 ⟨Y2.heap.size, 0, none⟩ (.slice p14 0 q14)) ⟨Y2.heap.size, 1, none⟩ (.slice p24 0 q24) = X4 at *
                 generalize hg : Y2.heap.size = g4 at *
                 clear hX hg)
              | (have bX4 := Duo.new u4 24 (.slice p14 0 q14) (.slice p24 0 q24)
                 have hx : Stp Y2 _ := bel_alloc hW2 (.cells #[(.slice p14 0 q14), (.slice p24 0 q24)] 24)
                 replace s14 := s14.alloc (.cells #[(.slice p14 0 q14), (.slice p24 0 q24)] 24)
                 replace s24 := s24.alloc (.cells #[(.slice p14 0 q14), (.slice p24 0 q24)] 24)
                 have fg : Fresh Y2 u4.heap.size := hW2.size
                 clear hb2 hW2
                 generalize hX : World.alloc u4 (.cells #[(.slice p14 0 q14), (.slice p24 0 q24)] 24) = X4 at *
                 generalize hg : u4.heap.size = g4 at *
                 clear hX hg)
            have hb := hx
            clear hx
            replace bR := bR.stp hb
            replace bA := bA.stp hb
            replace bB := bB.stp hb
            replace rl := rl.stp hb
            replace rg := rg.stp hb
            replace r1 := r1.stp hb
            replace r2 := r2.stp hb
            replace r3 := r3.stp hb
            replace r4 := r4.stp hb
            replace hB := bel_stp hB hb
            replace ek := ek.stp hb
            replace ej := ej.stp hb
            replace s12 := s12.stp hb
            replace s22 := s22.stp hb
            clear hb
            clear fg
            clear F1 F2 s14 s24
            go_wp2_with fail
            go_roundw
            case rel =>
              have hN := HN.out
              rw [F3B.out] at hN
              exact ⟨k + 1, MA, GB, _, _, _, _, _, _, _, _, by go_num, by omega, bR, bA, bB, rl, rg, s12, s22, r3, r4, hB, Lib.hid hN⟩
            case measure => simp [intOf]; omega
        obtain ⟨f1, f2⟩ := HV2.out.2 hmB
        have F1 := Lib.hid f1; have F2 := Lib.hid f2
        clear f1 f2 hmB
        have c0_bB := bB.cell0
        have c1_bB := bB.cell1
        have lt_bB := bB.lt
        have c0_bR := bR.cell0
        have c1_bR := bR.cell1
        have lt_bR := bR.lt
        have ec := ej.2; have el := ej.1
        have nV0 : ¬ B0 = Y2.heap.size := by have := lt_bB; omega
        have mV0 : ¬ Y2.heap.size = B0 := fun h => nV0 h.symm
        have nV1 : ¬ Rb = Y2.heap.size := by have := lt_bR; omega
        have mV1 : ¬ Y2.heap.size = Rb := fun h => nV1 h.symm
        have nV2 : ¬ b0 = Y2.heap.size := by have := el; omega
        have mV2 : ¬ Y2.heap.size = b0 := fun h => nV2 h.symm
        (try go_wp2_with fail)
        go_region_held3 (fun w' => w'.cell? ⟨B0, 0, none⟩ = some (.slice a3 live.length c3) ∧ w'.cell? ⟨B0, 1, none⟩ = some (.slice a4 GB.length c4) ∧ w'.cell? ⟨Rb, 0, none⟩ = some (.slice (some ⟨b0, o0, none⟩) live.length cl) ∧ w'.cell? ⟨b0, o0 + j, none⟩ = some (.int .i64 y))
          (first | go_keep | (refine ⟨?_, ?_, ?_, ?_⟩ <;> assumption) | trivial | (go_simp; done) | (refine ⟨?_, ?_, ?_, ?_⟩ <;> (first | assumption | trivial | (go_simp; done) | (go_simp; assumption))))
          (first
            | (go_at_call 13
               refine (Rev_is _ _ live GB y 0 live MB live.length MB.length _ (by first | exact r3 | exact r3.alloc _) (by first | exact r4 | exact r4.alloc _) (by omega) (by omega) Wy.out F1.out F2.out rfl rfl).mono ?_
               rintro e u4 ⟨⟨p14, q14, p24, q24, rfl, s14, s24⟩, hb2⟩
               first | (have hW2 : Below Y2.heap.size Y2 u4 := bel_stp (bel_drew (Below.refl Y2.heap.size Y2)) hb2) | (have hW2 : Below Y2.heap.size Y2 u4 := bel_stp (bel_drew (bel_alloc (Below.refl Y2.heap.size Y2) _)) hb2)
               have x0 : u4.cell? ⟨B0, 0, none⟩ = some (.slice a3 live.length c3) := (hW2.cell (p := ⟨B0, 0, none⟩) lt_bB).trans c0_bB
               have x1 : u4.cell? ⟨B0, 1, none⟩ = some (.slice a4 GB.length c4) := (hW2.cell (p := ⟨B0, 1, none⟩) lt_bB).trans c1_bB
               have x2 : u4.cell? ⟨Rb, 0, none⟩ = some (.slice (some ⟨b0, o0, none⟩) live.length cl) := (hW2.cell (p := ⟨Rb, 0, none⟩) lt_bR).trans c0_bR
               have x3 : u4.cell? ⟨b0, o0 + j, none⟩ = some (.int .i64 y) := (hW2.cell (p := ⟨b0, o0 + j, none⟩) el).trans ec
               have nW0 : ¬ B0 = u4.heap.size := by have := lt_bB; have := hW2.size; omega
               have mW0 : ¬ u4.heap.size = B0 := fun h => nW0 h.symm
               have lW0 : B0 < u4.heap.size := by have := lt_bB; have := hW2.size; omega
               have nW1 : ¬ Rb = u4.heap.size := by have := lt_bR; have := hW2.size; omega
               have mW1 : ¬ u4.heap.size = Rb := fun h => nW1 h.symm
               have lW1 : Rb < u4.heap.size := by have := lt_bR; have := hW2.size; omega
               have nW2 : ¬ b0 = u4.heap.size := by have := el; have := hW2.size; omega
               have mW2 : ¬ u4.heap.size = b0 := fun h => nW2 h.symm
               have lW2 : b0 < u4.heap.size := by have := el; have := hW2.size; omega
               first | (have zz : Duo u4 Y2.heap.size 24 (.slice none 0 0) (.slice none 0 0) := ?_; rotate_left; (focus (refine Duo.stp ?_ hb2; refine Duo.drew ?_; refine Duo.new' _ _ _ _ _ ?_; rfl)); have z0 := zz.cell0; have z1 := zz.cell1; have z2 := zz.free 0; have z3 := zz.free 1) | skip)
            | fail)
        all_goals
          clear nV0 mV0 nV1 mV1 nV2 mV2 x0 x1 x2 x3 nW0 mW0 lW0 nW1 mW1 lW1 nW2 mW2 lW2
          clear c0_bB c1_bB lt_bB c0_bR c1_bR lt_bR ec el
          first
            | (have bX4 := (zz.set0 (.slice p14 live.length q14)).set1 (.slice p24 MB.length q24)
               have o_s14 := s14.off_duo zz
               have o_s24 := s24.off_duo zz
               have hx : Stp Y2 _ := bel_set (bel_set hW2 (p := ⟨Y2.heap.size, 0, none⟩) (Nat.le_refl _) (.slice p14 live.length q14)) (p := ⟨Y2.heap.size, 1, none⟩) (Nat.le_refl _) (.slice p24 MB.length q24)
               replace s14 := (Row.aside s14 (p := ⟨Y2.heap.size, 0, none⟩) o_s14 (.slice p14 live.length q14)).aside (p := ⟨Y2.heap.size, 1, none⟩) o_s14 (.slice p24 MB.length q24)
               replace s24 := (Row.aside s24 (p := ⟨Y2.heap.size, 0, none⟩) o_s24 (.slice p14 live.length q14)).aside (p := ⟨Y2.heap.size, 1, none⟩) o_s24 (.slice p24 MB.length q24)
               have fg : Fresh Y2 Y2.heap.size := Nat.le_refl _
               clear zz z0 z1 z2 z3 hb2 hW2 o_s14 o_s24
               generalize hX : World.setCell (World.setCell u4 ⟨Y2.heap.size, 0, none⟩ (.slice p14 live.length q14)) ⟨Y2.heap.size, 1, none⟩ (.slice p24 MB.length q24) = X4 at *
               generalize hg : Y2.heap.size = g4 at *
               clear hX hg)
            | (have bX4 := Duo.new u4 24 (.slice p14 live.length q14) (.slice p24 MB.length q24)
               have hx : Stp Y2 _ := bel_alloc hW2 (.cells #[(.slice p14 live.length q14), (.slice p24 MB.length q24)] 24)
               replace s14 := s14.alloc (.cells #[(.slice p14 live.length q14), (.slice p24 MB.length q24)] 24)
               replace s24 := s24.alloc (.cells #[(.slice p14 live.length q14), (.slice p24 MB.length q24)] 24)
               have fg : Fresh Y2 u4.heap.size := hW2.size
               clear hb2 hW2
               generalize hX : World.alloc u4 (.cells #[(.slice p14 live.length q14), (.slice p24 MB.length q24)] 24) = X4 at *
               generalize hg : u4.heap.size = g4 at *
               clear hX hg)
          have hb := hx
          clear hx
          replace bR := bR.stp hb
          replace bA := bA.stp hb
          replace bB := bB.stp hb
          replace rl := rl.stp hb
          replace rg := rg.stp hb
          replace r1 := r1.stp hb
          replace r2 := r2.stp hb
          replace r3 := r3.stp hb
          replace r4 := r4.stp hb
          replace hB := bel_stp hB hb
          replace ek := ek.stp hb
          replace ej := ej.stp hb
          replace s12 := s12.stp hb
          replace s22 := s22.stp hb
          clear hb
          clear fg
          clear F1 F2
          have c0_bB := bB.cell0
          have c1_bB := bB.cell1
          have lt_bB := bB.lt
          have c0_bX4 := bX4.cell0
          have c1_bX4 := bX4.cell1
          have lt_bX4 := bX4.lt
          have fr0 := bB.free 0; have fr1 := bB.free 1
          go_wp2_with fail
          clear fr0 fr1 c0_bB c1_bB lt_bB c0_bX4 c1_bX4 lt_bX4
          replace bR := (bR.other (p := ⟨B0, 0, none⟩) (fun h => nRB h.symm) (.slice p14 live.length q14)).other (p := ⟨B0, 1, none⟩) (fun h => nRB h.symm) (.slice p24 MB.length q24)
          replace bA := (bA.other (p := ⟨B0, 0, none⟩) (fun h => nAB h.symm) (.slice p14 live.length q14)).other (p := ⟨B0, 1, none⟩) (fun h => nAB h.symm) (.slice p24 MB.length q24)
          have o_o := rl.off_duo bB
          replace rl := (rl.aside (p := ⟨B0, 0, none⟩) o_o (.slice p14 live.length q14)).aside (p := ⟨B0, 1, none⟩) o_o (.slice p24 MB.length q24)
          clear o_o
          have o_o := rg.off_duo bB
          replace rg := (rg.aside (p := ⟨B0, 0, none⟩) o_o (.slice p14 live.length q14)).aside (p := ⟨B0, 1, none⟩) o_o (.slice p24 MB.length q24)
          clear o_o
          have o_o := r1.off_duo bB
          replace r1 := (r1.aside (p := ⟨B0, 0, none⟩) o_o (.slice p14 live.length q14)).aside (p := ⟨B0, 1, none⟩) o_o (.slice p24 MB.length q24)
          clear o_o
          have o_o := r2.off_duo bB
          replace r2 := (r2.aside (p := ⟨B0, 0, none⟩) o_o (.slice p14 live.length q14)).aside (p := ⟨B0, 1, none⟩) o_o (.slice p24 MB.length q24)
          clear o_o
          have o_o := r3.off_duo bB
          replace r3 := (r3.aside (p := ⟨B0, 0, none⟩) o_o (.slice p14 live.length q14)).aside (p := ⟨B0, 1, none⟩) o_o (.slice p24 MB.length q24)
          clear o_o
          have o_o := r4.off_duo bB
          replace r4 := (r4.aside (p := ⟨B0, 0, none⟩) o_o (.slice p14 live.length q14)).aside (p := ⟨B0, 1, none⟩) o_o (.slice p24 MB.length q24)
          clear o_o
          replace hB := bel_set (bel_set hB (p := ⟨B0, 0, none⟩) wB'.out (.slice p14 live.length q14)) (p := ⟨B0, 1, none⟩) wB'.out (.slice p24 MB.length q24)
          replace ek := (ek.other (p := ⟨B0, 0, none⟩) (fun h => nbB h.symm) (.slice p14 live.length q14)).other (p := ⟨B0, 1, none⟩) (fun h => nbB h.symm) (.slice p24 MB.length q24)
          replace ej := (ej.other (p := ⟨B0, 0, none⟩) (fun h => nbB h.symm) (.slice p14 live.length q14)).other (p := ⟨B0, 1, none⟩) (fun h => nbB h.symm) (.slice p24 MB.length q24)
          have o_o := s12.off_duo bB
          replace s12 := (s12.aside (p := ⟨B0, 0, none⟩) o_o (.slice p14 live.length q14)).aside (p := ⟨B0, 1, none⟩) o_o (.slice p24 MB.length q24)
          clear o_o
          have o_o := s22.off_duo bB
          replace s22 := (s22.aside (p := ⟨B0, 0, none⟩) o_o (.slice p14 live.length q14)).aside (p := ⟨B0, 1, none⟩) o_o (.slice p24 MB.length q24)
          clear o_o
          have o_o := s14.off_duo bB
          replace s14 := (s14.aside (p := ⟨B0, 0, none⟩) o_o (.slice p14 live.length q14)).aside (p := ⟨B0, 1, none⟩) o_o (.slice p24 MB.length q24)
          clear o_o
          have o_o := s24.off_duo bB
          replace s24 := (s24.aside (p := ⟨B0, 0, none⟩) o_o (.slice p14 live.length q14)).aside (p := ⟨B0, 1, none⟩) o_o (.slice p24 MB.length q24)
          clear o_o
          replace bB := (bB.set0 (.slice p14 live.length q14)).set1 (.slice p24 MB.length q24)
          clear bX4
          generalize hX : World.setCell (World.setCell X4 ⟨B0, 0, none⟩ (.slice p14 live.length q14)) ⟨B0, 1, none⟩ (.slice p24 MB.length q24) = Y4 at *
          clear hX
          (try go_wp2_with fail)
          go_roundw
          case rel =>
            have hN := HN.out
            exact ⟨k + 1, MA, MB, _, _, _, _, _, _, _, _, by go_num, by omega, bR, bA, bB, rl, rg, s12, s22, s14, s24, hB, Lib.hid hN⟩
          case measure => simp [intOf]; omega
    obtain rfl : k = live.length := by omega
    obtain ⟨eA, eB⟩ := HT.out.last HOk.out
    rw [eA] at bA r2
    rw [eB] at bB r4
    clear eA eB HT lA lB k0 e1 hk hlt
    obtain ⟨V2, rfl⟩ : ∃ W : World, W = wr := ⟨_, rfl⟩
    have OAll := Lib.hid (okay_all HOk.out); have ONone := Lib.hid (okay_none HOk.out)
    obtain ⟨o1, ho1⟩ : ∃ o, Rv.day live live day = o := ⟨_, rfl⟩
    obtain ⟨o2, ho2⟩ : ∃ o, Rv.day live [] day = o := ⟨_, rfl⟩
    cases o1
    case none =>
      have HO1 := Lib.hid ho1
      cases o2
      case none =>
        have HO2 := Lib.hid ho2
        clear ho1 ho2
        have c0_bA := bA.cell0
        have c1_bA := bA.cell1
        have lt_bA := bA.lt
        have c0_bR := bR.cell0
        have c1_bR := bR.cell1
        have lt_bR := bR.lt
        go_wp2_with fail
        refine (Day_no _ _ live live day _ r1 r2 (by omega) (by omega) HO1.out).mono ?_; rintro e w4 ⟨⟨cc, hcc, rfl⟩, hb⟩
        clear c0_bA c1_bA lt_bA c0_bR c1_bR lt_bR
        replace bR := bR.stp hb
        replace bA := bA.stp hb
        replace bB := bB.stp hb
        replace rl := rl.stp hb
        replace rg := rg.stp hb
        replace r1 := r1.stp hb
        replace r2 := r2.stp hb
        replace r3 := r3.stp hb
        replace r4 := r4.stp hb
        replace hB := bel_stp hB hb
        clear hb
        have bC := Duo.new w4 35 (.int .i64 0) (.slice none 0 0)
        have c0_bR := bR.cell0
        have c1_bR := bR.cell1
        have lt_bR := bR.lt
        go_wp2_with fail
        refine (Day_no _ _ live [] day _ (rl.alloc _) (Row.nil _ _) (by omega) (by simp) HO2.out).mono ?_; rintro e w5 ⟨⟨dd, hdd, rfl⟩, hb⟩
        clear c0_bR c1_bR lt_bR
        replace bR := (bR.alloc _).stp hb
        replace bA := (bA.alloc _).stp hb
        replace bB := (bB.alloc _).stp hb
        replace rl := (rl.alloc _).stp hb
        replace rg := (rg.alloc _).stp hb
        replace r1 := (r1.alloc _).stp hb
        replace r2 := (r2.alloc _).stp hb
        replace r3 := (r3.alloc _).stp hb
        replace r4 := (r4.alloc _).stp hb
        replace hB := bel_stp (bel_alloc hB _) hb
        replace bC := bC.stp hb
        clear hb
        have bD := Duo.new w5 35 (.int .i64 0) (.slice none 0 0)
        replace bR := bR.alloc (.cells #[.int .i64 0, .slice none 0 0] 35)
        replace bA := bA.alloc (.cells #[.int .i64 0, .slice none 0 0] 35)
        replace bB := bB.alloc (.cells #[.int .i64 0, .slice none 0 0] 35)
        replace rl := rl.alloc (.cells #[.int .i64 0, .slice none 0 0] 35)
        replace rg := rg.alloc (.cells #[.int .i64 0, .slice none 0 0] 35)
        replace r1 := r1.alloc (.cells #[.int .i64 0, .slice none 0 0] 35)
        replace r2 := r2.alloc (.cells #[.int .i64 0, .slice none 0 0] 35)
        replace r3 := r3.alloc (.cells #[.int .i64 0, .slice none 0 0] 35)
        replace r4 := r4.alloc (.cells #[.int .i64 0, .slice none 0 0] 35)
        replace hB := bel_alloc hB (.cells #[.int .i64 0, .slice none 0 0] 35)
        replace bC := bC.alloc (.cells #[.int .i64 0, .slice none 0 0] 35)
        obtain ⟨V, hV⟩ : ∃ V, World.alloc w5 (.cells #[.int .i64 0, .slice none 0 0] 35) = V := ⟨_, rfl⟩
        rw [hV] at bR bA bB rl rg r1 r2 r3 r4 hB bC bD
        have hVh := Lib.hid hV
        clear hV
        have hc1 : (cc == 0) = false := by simpa using hcc
        have hd1 : (dd == 0) = false := by simpa using hdd
        have c0_bR := bR.cell0
        have c1_bR := bR.cell1
        have lt_bR := bR.lt
        go_wp2_with fail
        clear c0_bR c1_bR lt_bR
        (try rw [hVh.out])
        go_loopw [16] (fun i wr => ∃ k : Nat, k ≤ live.length ∧ i = .int .i64 k ∧ Below V.heap.size V wr) (fun i _ => live.length - (intOf i).toNat)
        case atStart => exact ⟨0, Nat.zero_le _, rfl, Below.refl _ _⟩
        case round =>
          clear hVh
          obtain ⟨k, hk, rfl, hb⟩ := hrel
          have hK := Lib.hid hb
          replace bR := bR.stp hb
          replace bA := bA.stp hb
          replace bB := bB.stp hb
          replace rl := rl.stp hb
          replace rg := rg.stp hb
          replace r1 := r1.stp hb
          replace r2 := r2.stp hb
          replace r3 := r3.stp hb
          replace r4 := r4.stp hb
          replace hB := bel_stp hB hb
          replace bC := bC.stp hb
          replace bD := bD.stp hb
          clear hb
          have k0 : (0 : Int) ≤ (k : Int) := by omega
          have e1 : IntKind.i64.wrap ((k : Int) + 1) = (k : Int) + 1 := IntWalk.i64_in _ (by omega)
          by_cases hlt : k < live.length
          case pos =>
            have H_rl := Lib.hid rl
            have H_rg := Lib.hid rg
            have H_r1 := Lib.hid r1
            have H_r2 := Lib.hid r2
            have H_r3 := Lib.hid r3
            have H_r4 := Lib.hid r4
            have H_hB := Lib.hid hB
            clear rl rg r1 r2 r3 r4 hB
            have k1 : (k : Int) < (live.length : Int) := by omega
            obtain ⟨_, _, e', _, _, _, _, h5⟩ := H_rl.out
            cases e'
            obtain ⟨b0, o0, rfl, hb0, hc0⟩ := h5 (by rintro rfl; simp at hlt)
            have hck := hc0 k hlt
            obtain ⟨z, hz⟩ : ∃ x, live[k]?.getD 0 = x := ⟨_, rfl⟩
            rw [hz] at hck
            have hm : z ∈ live := mem_at hlt hz
            clear hc0 h5 hz
            clear hm
            have c0_bR := bR.cell0
            have c1_bR := bR.cell1
            have lt_bR := bR.lt
            have q_c0_bR := cell_regrown c0_bR
            have q_c1_bR := cell_regrown c1_bR
            have q_hck := cell_regrown hck
            go_wp2_with fail
            refine wp_region_quiet_below (by kernel_rfl) (by kernel_rfl) ?_
            repeat (go_big_quiet_step (fail))
            refine wpQuiet_nil ?_
            intro _ hw'
            obtain ⟨⟨dq, osq⟩, hw''⟩ := hw'
            subst hw''
            go_wp2_with fail
            go_roundw
            case rel => exact ⟨k + 1, by omega, by go_num, hK.out.trans ((below_regrown wr dq osq).mono hK.out.size)⟩
            case measure => simp [intOf]; omega
          obtain rfl : k = live.length := by omega
          have c0_bA := bA.cell0
          have c1_bA := bA.cell1
          have lt_bA := bA.lt
          have c0_bB := bB.cell0
          have c1_bB := bB.cell1
          have lt_bB := bB.lt
          have c0_bR := bR.cell0
          have c1_bR := bR.cell1
          have lt_bR := bR.lt
          go_wp2_with fail
          refine (RSame_any _ _ _ _ live live live live _ r1 r2 r3 r4 (by omega) (by omega) (by omega) (by omega)).mono ?_; rintro e w6 ⟨rfl, hb⟩
          clear c0_bA c1_bA lt_bA c0_bB c1_bB lt_bB c0_bR c1_bR lt_bR
          replace bR := bR.stp hb
          replace bA := bA.stp hb
          replace bB := bB.stp hb
          replace rl := rl.stp hb
          replace rg := rg.stp hb
          replace r1 := r1.stp hb
          replace r2 := r2.stp hb
          replace r3 := r3.stp hb
          replace r4 := r4.stp hb
          replace hB := bel_stp hB hb
          replace bC := bC.stp hb
          replace bD := bD.stp hb
          clear hb
          simp only [decide_true, Bool.and_self]
          have c0_bA := bA.cell0
          have c1_bA := bA.cell1
          have lt_bA := bA.lt
          have c0_bR := bR.cell0
          have c1_bR := bR.cell1
          have lt_bR := bR.lt
          go_wp2_with fail
          refine (RInts_any _ _ live live _ r2 rl (by omega) (by omega)).mono ?_; rintro e w7 ⟨rfl, hb⟩
          clear c0_bA c1_bA lt_bA c0_bR c1_bR lt_bR
          replace bR := bR.stp hb
          replace bA := bA.stp hb
          replace bB := bB.stp hb
          replace rl := rl.stp hb
          replace rg := rg.stp hb
          replace r1 := r1.stp hb
          replace r2 := r2.stp hb
          replace r3 := r3.stp hb
          replace r4 := r4.stp hb
          replace hB := bel_stp hB hb
          replace bC := bC.stp hb
          replace bD := bD.stp hb
          clear hb
          rw [decide_eq_true (rfl : live = live)]
          go_wp2_with fail
          go_ret
          exact ⟨rfl, hB⟩
      rename_i ls2
      have T2 : Hid (∀ z ∈ live, Cm.has day ls2 z = false) := Lib.hid (fun z hz => (Rv.day_has ho2).2.2.2.2.2 z hz (by simp))
      have L2 : Hid (ls2.length ≤ 1000000) := Lib.hid (by have := (Rv.day_has ho2).2.2.1.1; omega)
      have HO2 := Lib.hid ho2
      clear ho1 ho2
      have c0_bA := bA.cell0
      have c1_bA := bA.cell1
      have lt_bA := bA.lt
      have c0_bR := bR.cell0
      have c1_bR := bR.cell1
      have lt_bR := bR.lt
      go_wp2_with fail
      refine (Day_no _ _ live live day _ r1 r2 (by omega) (by omega) HO1.out).mono ?_; rintro e w4 ⟨⟨cc, hcc, rfl⟩, hb⟩
      clear c0_bA c1_bA lt_bA c0_bR c1_bR lt_bR
      replace bR := bR.stp hb
      replace bA := bA.stp hb
      replace bB := bB.stp hb
      replace rl := rl.stp hb
      replace rg := rg.stp hb
      replace r1 := r1.stp hb
      replace r2 := r2.stp hb
      replace r3 := r3.stp hb
      replace r4 := r4.stp hb
      replace hB := bel_stp hB hb
      clear hb
      have bC := Duo.new w4 35 (.int .i64 0) (.slice none 0 0)
      have c0_bR := bR.cell0
      have c1_bR := bR.cell1
      have lt_bR := bR.lt
      go_wp2_with fail
      refine (Day_yes _ _ live [] day ls2 _ (rl.alloc _) (Row.nil _ _) (by omega) (by simp) HO2.out).mono ?_; rintro e w5 ⟨⟨a6, c6, rfl, sv2⟩, hb⟩
      clear c0_bR c1_bR lt_bR
      replace bR := (bR.alloc _).stp hb
      replace bA := (bA.alloc _).stp hb
      replace bB := (bB.alloc _).stp hb
      replace rl := (rl.alloc _).stp hb
      replace rg := (rg.alloc _).stp hb
      replace r1 := (r1.alloc _).stp hb
      replace r2 := (r2.alloc _).stp hb
      replace r3 := (r3.alloc _).stp hb
      replace r4 := (r4.alloc _).stp hb
      replace hB := bel_stp (bel_alloc hB _) hb
      replace bC := bC.stp hb
      clear hb
      have bD := Duo.new w5 35 (.int .i64 day) (.slice a6 ls2.length c6)
      replace bR := bR.alloc (.cells #[.int .i64 day, .slice a6 ls2.length c6] 35)
      replace bA := bA.alloc (.cells #[.int .i64 day, .slice a6 ls2.length c6] 35)
      replace bB := bB.alloc (.cells #[.int .i64 day, .slice a6 ls2.length c6] 35)
      replace rl := rl.alloc (.cells #[.int .i64 day, .slice a6 ls2.length c6] 35)
      replace rg := rg.alloc (.cells #[.int .i64 day, .slice a6 ls2.length c6] 35)
      replace r1 := r1.alloc (.cells #[.int .i64 day, .slice a6 ls2.length c6] 35)
      replace r2 := r2.alloc (.cells #[.int .i64 day, .slice a6 ls2.length c6] 35)
      replace r3 := r3.alloc (.cells #[.int .i64 day, .slice a6 ls2.length c6] 35)
      replace r4 := r4.alloc (.cells #[.int .i64 day, .slice a6 ls2.length c6] 35)
      replace hB := bel_alloc hB (.cells #[.int .i64 day, .slice a6 ls2.length c6] 35)
      replace bC := bC.alloc (.cells #[.int .i64 day, .slice a6 ls2.length c6] 35)
      replace sv2 := sv2.alloc (.cells #[.int .i64 day, .slice a6 ls2.length c6] 35)
      obtain ⟨V, hV⟩ : ∃ V, World.alloc w5 (.cells #[.int .i64 day, .slice a6 ls2.length c6] 35) = V := ⟨_, rfl⟩
      rw [hV] at bR bA bB rl rg r1 r2 r3 r4 hB bC sv2 bD
      have hVh := Lib.hid hV
      clear hV
      have hc1 : (cc == 0) = false := by simpa using hcc
      have c0_bR := bR.cell0
      have c1_bR := bR.cell1
      have lt_bR := bR.lt
      go_wp2_with fail
      clear c0_bR c1_bR lt_bR
      (try rw [hVh.out])
      go_loopw [16] (fun i wr => ∃ k : Nat, k ≤ live.length ∧ i = .int .i64 k ∧ Below V.heap.size V wr) (fun i _ => live.length - (intOf i).toNat)
      case atStart => exact ⟨0, Nat.zero_le _, rfl, Below.refl _ _⟩
      case round =>
        clear hVh
        obtain ⟨k, hk, rfl, hb⟩ := hrel
        have hK := Lib.hid hb
        replace bR := bR.stp hb
        replace bA := bA.stp hb
        replace bB := bB.stp hb
        replace rl := rl.stp hb
        replace rg := rg.stp hb
        replace r1 := r1.stp hb
        replace r2 := r2.stp hb
        replace r3 := r3.stp hb
        replace r4 := r4.stp hb
        replace hB := bel_stp hB hb
        replace bC := bC.stp hb
        replace sv2 := sv2.stp hb
        replace bD := bD.stp hb
        clear hb
        have k0 : (0 : Int) ≤ (k : Int) := by omega
        have e1 : IntKind.i64.wrap ((k : Int) + 1) = (k : Int) + 1 := IntWalk.i64_in _ (by omega)
        by_cases hlt : k < live.length
        case pos =>
          have H_rl := Lib.hid rl
          have H_rg := Lib.hid rg
          have H_r1 := Lib.hid r1
          have H_r2 := Lib.hid r2
          have H_r3 := Lib.hid r3
          have H_r4 := Lib.hid r4
          have H_sv2 := Lib.hid sv2
          have H_hB := Lib.hid hB
          clear rl rg r1 r2 r3 r4 sv2 hB
          have k1 : (k : Int) < (live.length : Int) := by omega
          obtain ⟨_, _, e', _, _, _, _, h5⟩ := H_rl.out
          cases e'
          obtain ⟨b0, o0, rfl, hb0, hc0⟩ := h5 (by rintro rfl; simp at hlt)
          have hck := hc0 k hlt
          obtain ⟨z, hz⟩ : ∃ x, live[k]?.getD 0 = x := ⟨_, rfl⟩
          rw [hz] at hck
          have hm : z ∈ live := mem_at hlt hz
          clear hc0 h5 hz
          have D2 := Lib.hid (T2.out z hm)
          clear hm
          have c0_bR := bR.cell0
          have c1_bR := bR.cell1
          have lt_bR := bR.lt
          have c0_bD := bD.cell0
          have c1_bD := bD.cell1
          have lt_bD := bD.lt
          have q_c0_bR := cell_regrown c0_bR
          have q_c1_bR := cell_regrown c1_bR
          have q_c0_bD := cell_regrown c0_bD
          have q_c1_bD := cell_regrown c1_bD
          have q_hck := cell_regrown hck
          have q2 : ∀ d os, Calls Try.prog 22 #[.agg #[.int .i64 day, .slice a6 ls2.length c6], .int .i64 z] (grow (redrawn wr d) os) fun e w'' => e = .returned (.bool false) ∧ ∃ p : Regrown, w'' = grow (redrawn wr p.d) p.os := fun d os => Calls.regrown_of (by have bw := below_regrown wr d os; exact (CHas_any day _ ls2 z _ (H_sv2.out.below bw) L2.out).mono (fun _ _ h => ⟨by rw [h.1, D2.out], h.2⟩))
          go_wp2_with fail
          (try rw [hV])
          refine wp_region_quiet_below (by kernel_rfl) (by kernel_rfl) ?_
          repeat (go_big_quiet_step (first | with_reducible exact q2 _ _))
          refine wpQuiet_nil ?_
          intro _ hw'
          obtain ⟨⟨dq, osq⟩, hw''⟩ := hw'
          subst hw''
          go_wp2_with fail
          go_roundw
          case rel => exact ⟨k + 1, by omega, by go_num, hK.out.trans ((below_regrown wr dq osq).mono hK.out.size)⟩
          case measure => simp [intOf]; omega
        obtain rfl : k = live.length := by omega
        have c0_bA := bA.cell0
        have c1_bA := bA.cell1
        have lt_bA := bA.lt
        have c0_bB := bB.cell0
        have c1_bB := bB.cell1
        have lt_bB := bB.lt
        have c0_bR := bR.cell0
        have c1_bR := bR.cell1
        have lt_bR := bR.lt
        go_wp2_with fail
        refine (RSame_any _ _ _ _ live live live live _ r1 r2 r3 r4 (by omega) (by omega) (by omega) (by omega)).mono ?_; rintro e w6 ⟨rfl, hb⟩
        clear c0_bA c1_bA lt_bA c0_bB c1_bB lt_bB c0_bR c1_bR lt_bR
        replace bR := bR.stp hb
        replace bA := bA.stp hb
        replace bB := bB.stp hb
        replace rl := rl.stp hb
        replace rg := rg.stp hb
        replace r1 := r1.stp hb
        replace r2 := r2.stp hb
        replace r3 := r3.stp hb
        replace r4 := r4.stp hb
        replace hB := bel_stp hB hb
        replace bC := bC.stp hb
        replace sv2 := sv2.stp hb
        replace bD := bD.stp hb
        clear hb
        simp only [decide_true, Bool.and_self]
        have c0_bA := bA.cell0
        have c1_bA := bA.cell1
        have lt_bA := bA.lt
        have c0_bR := bR.cell0
        have c1_bR := bR.cell1
        have lt_bR := bR.lt
        go_wp2_with fail
        refine (RInts_any _ _ live live _ r2 rl (by omega) (by omega)).mono ?_; rintro e w7 ⟨rfl, hb⟩
        clear c0_bA c1_bA lt_bA c0_bR c1_bR lt_bR
        replace bR := bR.stp hb
        replace bA := bA.stp hb
        replace bB := bB.stp hb
        replace rl := rl.stp hb
        replace rg := rg.stp hb
        replace r1 := r1.stp hb
        replace r2 := r2.stp hb
        replace r3 := r3.stp hb
        replace r4 := r4.stp hb
        replace hB := bel_stp hB hb
        replace bC := bC.stp hb
        replace sv2 := sv2.stp hb
        replace bD := bD.stp hb
        clear hb
        rw [decide_eq_true (rfl : live = live)]
        go_wp2_with fail
        go_ret
        exact ⟨rfl, hB⟩
    rename_i ls1
    have T1 : Hid (∀ z ∈ live, Cm.has day ls1 z = true) := Lib.hid (Rv.day_has ho1 |>.2.2.2.2.1)
    have L1 : Hid (ls1.length ≤ 1000000) := Lib.hid (by have := (Rv.day_has ho1).2.2.1.1; omega)
    have HO1 := Lib.hid ho1
    cases o2
    case none =>
      have HO2 := Lib.hid ho2
      clear ho1 ho2
      have c0_bA := bA.cell0
      have c1_bA := bA.cell1
      have lt_bA := bA.lt
      have c0_bR := bR.cell0
      have c1_bR := bR.cell1
      have lt_bR := bR.lt
      go_wp2_with fail
      refine (Day_yes _ _ live live day ls1 _ r1 r2 (by omega) (by omega) HO1.out).mono ?_; rintro e w4 ⟨⟨a5, c5, rfl, sv1⟩, hb⟩
      clear c0_bA c1_bA lt_bA c0_bR c1_bR lt_bR
      replace bR := bR.stp hb
      replace bA := bA.stp hb
      replace bB := bB.stp hb
      replace rl := rl.stp hb
      replace rg := rg.stp hb
      replace r1 := r1.stp hb
      replace r2 := r2.stp hb
      replace r3 := r3.stp hb
      replace r4 := r4.stp hb
      replace hB := bel_stp hB hb
      clear hb
      have bC := Duo.new w4 35 (.int .i64 day) (.slice a5 ls1.length c5)
      have c0_bR := bR.cell0
      have c1_bR := bR.cell1
      have lt_bR := bR.lt
      go_wp2_with fail
      refine (Day_no _ _ live [] day _ (rl.alloc _) (Row.nil _ _) (by omega) (by simp) HO2.out).mono ?_; rintro e w5 ⟨⟨dd, hdd, rfl⟩, hb⟩
      clear c0_bR c1_bR lt_bR
      replace bR := (bR.alloc _).stp hb
      replace bA := (bA.alloc _).stp hb
      replace bB := (bB.alloc _).stp hb
      replace rl := (rl.alloc _).stp hb
      replace rg := (rg.alloc _).stp hb
      replace r1 := (r1.alloc _).stp hb
      replace r2 := (r2.alloc _).stp hb
      replace r3 := (r3.alloc _).stp hb
      replace r4 := (r4.alloc _).stp hb
      replace hB := bel_stp (bel_alloc hB _) hb
      replace sv1 := (sv1.alloc _).stp hb
      replace bC := bC.stp hb
      clear hb
      have bD := Duo.new w5 35 (.int .i64 0) (.slice none 0 0)
      replace bR := bR.alloc (.cells #[.int .i64 0, .slice none 0 0] 35)
      replace bA := bA.alloc (.cells #[.int .i64 0, .slice none 0 0] 35)
      replace bB := bB.alloc (.cells #[.int .i64 0, .slice none 0 0] 35)
      replace rl := rl.alloc (.cells #[.int .i64 0, .slice none 0 0] 35)
      replace rg := rg.alloc (.cells #[.int .i64 0, .slice none 0 0] 35)
      replace r1 := r1.alloc (.cells #[.int .i64 0, .slice none 0 0] 35)
      replace r2 := r2.alloc (.cells #[.int .i64 0, .slice none 0 0] 35)
      replace r3 := r3.alloc (.cells #[.int .i64 0, .slice none 0 0] 35)
      replace r4 := r4.alloc (.cells #[.int .i64 0, .slice none 0 0] 35)
      replace hB := bel_alloc hB (.cells #[.int .i64 0, .slice none 0 0] 35)
      replace sv1 := sv1.alloc (.cells #[.int .i64 0, .slice none 0 0] 35)
      replace bC := bC.alloc (.cells #[.int .i64 0, .slice none 0 0] 35)
      obtain ⟨V, hV⟩ : ∃ V, World.alloc w5 (.cells #[.int .i64 0, .slice none 0 0] 35) = V := ⟨_, rfl⟩
      rw [hV] at bR bA bB rl rg r1 r2 r3 r4 hB sv1 bC bD
      have hVh := Lib.hid hV
      clear hV
      have hd1 : (dd == 0) = false := by simpa using hdd
      have c0_bR := bR.cell0
      have c1_bR := bR.cell1
      have lt_bR := bR.lt
      go_wp2_with fail
      clear c0_bR c1_bR lt_bR
      (try rw [hVh.out])
      go_loopw [16] (fun i wr => ∃ k : Nat, k ≤ live.length ∧ i = .int .i64 k ∧ Below V.heap.size V wr) (fun i _ => live.length - (intOf i).toNat)
      case atStart => exact ⟨0, Nat.zero_le _, rfl, Below.refl _ _⟩
      case round =>
        clear hVh
        obtain ⟨k, hk, rfl, hb⟩ := hrel
        have hK := Lib.hid hb
        replace bR := bR.stp hb
        replace bA := bA.stp hb
        replace bB := bB.stp hb
        replace rl := rl.stp hb
        replace rg := rg.stp hb
        replace r1 := r1.stp hb
        replace r2 := r2.stp hb
        replace r3 := r3.stp hb
        replace r4 := r4.stp hb
        replace hB := bel_stp hB hb
        replace sv1 := sv1.stp hb
        replace bC := bC.stp hb
        replace bD := bD.stp hb
        clear hb
        have k0 : (0 : Int) ≤ (k : Int) := by omega
        have e1 : IntKind.i64.wrap ((k : Int) + 1) = (k : Int) + 1 := IntWalk.i64_in _ (by omega)
        by_cases hlt : k < live.length
        case pos =>
          have H_rl := Lib.hid rl
          have H_rg := Lib.hid rg
          have H_r1 := Lib.hid r1
          have H_r2 := Lib.hid r2
          have H_r3 := Lib.hid r3
          have H_r4 := Lib.hid r4
          have H_sv1 := Lib.hid sv1
          have H_hB := Lib.hid hB
          clear rl rg r1 r2 r3 r4 sv1 hB
          have k1 : (k : Int) < (live.length : Int) := by omega
          obtain ⟨_, _, e', _, _, _, _, h5⟩ := H_rl.out
          cases e'
          obtain ⟨b0, o0, rfl, hb0, hc0⟩ := h5 (by rintro rfl; simp at hlt)
          have hck := hc0 k hlt
          obtain ⟨z, hz⟩ : ∃ x, live[k]?.getD 0 = x := ⟨_, rfl⟩
          rw [hz] at hck
          have hm : z ∈ live := mem_at hlt hz
          clear hc0 h5 hz
          have D1 := Lib.hid (T1.out z hm)
          clear hm
          have c0_bR := bR.cell0
          have c1_bR := bR.cell1
          have lt_bR := bR.lt
          have c0_bC := bC.cell0
          have c1_bC := bC.cell1
          have lt_bC := bC.lt
          have q_c0_bR := cell_regrown c0_bR
          have q_c1_bR := cell_regrown c1_bR
          have q_c0_bC := cell_regrown c0_bC
          have q_c1_bC := cell_regrown c1_bC
          have q_hck := cell_regrown hck
          have q1 : ∀ d os, Calls Try.prog 22 #[.agg #[.int .i64 day, .slice a5 ls1.length c5], .int .i64 z] (grow (redrawn wr d) os) fun e w'' => e = .returned (.bool true) ∧ ∃ p : Regrown, w'' = grow (redrawn wr p.d) p.os := fun d os => Calls.regrown_of (by have bw := below_regrown wr d os; exact (CHas_any day _ ls1 z _ (H_sv1.out.below bw) L1.out).mono (fun _ _ h => ⟨by rw [h.1, D1.out], h.2⟩))
          go_wp2_with fail
          (try rw [hV])
          refine wp_region_quiet_below (by kernel_rfl) (by kernel_rfl) ?_
          repeat (go_big_quiet_step (first | with_reducible exact q1 _ _))
          refine wpQuiet_nil ?_
          intro _ hw'
          obtain ⟨⟨dq, osq⟩, hw''⟩ := hw'
          subst hw''
          go_wp2_with fail
          go_roundw
          case rel => exact ⟨k + 1, by omega, by go_num, hK.out.trans ((below_regrown wr dq osq).mono hK.out.size)⟩
          case measure => simp [intOf]; omega
        obtain rfl : k = live.length := by omega
        have c0_bA := bA.cell0
        have c1_bA := bA.cell1
        have lt_bA := bA.lt
        have c0_bB := bB.cell0
        have c1_bB := bB.cell1
        have lt_bB := bB.lt
        have c0_bR := bR.cell0
        have c1_bR := bR.cell1
        have lt_bR := bR.lt
        go_wp2_with fail
        refine (RSame_any _ _ _ _ live live live live _ r1 r2 r3 r4 (by omega) (by omega) (by omega) (by omega)).mono ?_; rintro e w6 ⟨rfl, hb⟩
        clear c0_bA c1_bA lt_bA c0_bB c1_bB lt_bB c0_bR c1_bR lt_bR
        replace bR := bR.stp hb
        replace bA := bA.stp hb
        replace bB := bB.stp hb
        replace rl := rl.stp hb
        replace rg := rg.stp hb
        replace r1 := r1.stp hb
        replace r2 := r2.stp hb
        replace r3 := r3.stp hb
        replace r4 := r4.stp hb
        replace hB := bel_stp hB hb
        replace sv1 := sv1.stp hb
        replace bC := bC.stp hb
        replace bD := bD.stp hb
        clear hb
        simp only [decide_true, Bool.and_self]
        have c0_bA := bA.cell0
        have c1_bA := bA.cell1
        have lt_bA := bA.lt
        have c0_bR := bR.cell0
        have c1_bR := bR.cell1
        have lt_bR := bR.lt
        go_wp2_with fail
        refine (RInts_any _ _ live live _ r2 rl (by omega) (by omega)).mono ?_; rintro e w7 ⟨rfl, hb⟩
        clear c0_bA c1_bA lt_bA c0_bR c1_bR lt_bR
        replace bR := bR.stp hb
        replace bA := bA.stp hb
        replace bB := bB.stp hb
        replace rl := rl.stp hb
        replace rg := rg.stp hb
        replace r1 := r1.stp hb
        replace r2 := r2.stp hb
        replace r3 := r3.stp hb
        replace r4 := r4.stp hb
        replace hB := bel_stp hB hb
        replace sv1 := sv1.stp hb
        replace bC := bC.stp hb
        replace bD := bD.stp hb
        clear hb
        rw [decide_eq_true (rfl : live = live)]
        go_wp2_with fail
        go_ret
        exact ⟨rfl, hB⟩
    rename_i ls2
    have T2 : Hid (∀ z ∈ live, Cm.has day ls2 z = false) := Lib.hid (fun z hz => (Rv.day_has ho2).2.2.2.2.2 z hz (by simp))
    have L2 : Hid (ls2.length ≤ 1000000) := Lib.hid (by have := (Rv.day_has ho2).2.2.1.1; omega)
    have HO2 := Lib.hid ho2
    clear ho1 ho2
    have c0_bA := bA.cell0
    have c1_bA := bA.cell1
    have lt_bA := bA.lt
    have c0_bR := bR.cell0
    have c1_bR := bR.cell1
    have lt_bR := bR.lt
    go_wp2_with fail
    refine (Day_yes _ _ live live day ls1 _ r1 r2 (by omega) (by omega) HO1.out).mono ?_; rintro e w4 ⟨⟨a5, c5, rfl, sv1⟩, hb⟩
    clear c0_bA c1_bA lt_bA c0_bR c1_bR lt_bR
    replace bR := bR.stp hb
    replace bA := bA.stp hb
    replace bB := bB.stp hb
    replace rl := rl.stp hb
    replace rg := rg.stp hb
    replace r1 := r1.stp hb
    replace r2 := r2.stp hb
    replace r3 := r3.stp hb
    replace r4 := r4.stp hb
    replace hB := bel_stp hB hb
    clear hb
    have bC := Duo.new w4 35 (.int .i64 day) (.slice a5 ls1.length c5)
    have c0_bR := bR.cell0
    have c1_bR := bR.cell1
    have lt_bR := bR.lt
    go_wp2_with fail
    refine (Day_yes _ _ live [] day ls2 _ (rl.alloc _) (Row.nil _ _) (by omega) (by simp) HO2.out).mono ?_; rintro e w5 ⟨⟨a6, c6, rfl, sv2⟩, hb⟩
    clear c0_bR c1_bR lt_bR
    replace bR := (bR.alloc _).stp hb
    replace bA := (bA.alloc _).stp hb
    replace bB := (bB.alloc _).stp hb
    replace rl := (rl.alloc _).stp hb
    replace rg := (rg.alloc _).stp hb
    replace r1 := (r1.alloc _).stp hb
    replace r2 := (r2.alloc _).stp hb
    replace r3 := (r3.alloc _).stp hb
    replace r4 := (r4.alloc _).stp hb
    replace hB := bel_stp (bel_alloc hB _) hb
    replace sv1 := (sv1.alloc _).stp hb
    replace bC := bC.stp hb
    clear hb
    have bD := Duo.new w5 35 (.int .i64 day) (.slice a6 ls2.length c6)
    replace bR := bR.alloc (.cells #[.int .i64 day, .slice a6 ls2.length c6] 35)
    replace bA := bA.alloc (.cells #[.int .i64 day, .slice a6 ls2.length c6] 35)
    replace bB := bB.alloc (.cells #[.int .i64 day, .slice a6 ls2.length c6] 35)
    replace rl := rl.alloc (.cells #[.int .i64 day, .slice a6 ls2.length c6] 35)
    replace rg := rg.alloc (.cells #[.int .i64 day, .slice a6 ls2.length c6] 35)
    replace r1 := r1.alloc (.cells #[.int .i64 day, .slice a6 ls2.length c6] 35)
    replace r2 := r2.alloc (.cells #[.int .i64 day, .slice a6 ls2.length c6] 35)
    replace r3 := r3.alloc (.cells #[.int .i64 day, .slice a6 ls2.length c6] 35)
    replace r4 := r4.alloc (.cells #[.int .i64 day, .slice a6 ls2.length c6] 35)
    replace hB := bel_alloc hB (.cells #[.int .i64 day, .slice a6 ls2.length c6] 35)
    replace sv1 := sv1.alloc (.cells #[.int .i64 day, .slice a6 ls2.length c6] 35)
    replace bC := bC.alloc (.cells #[.int .i64 day, .slice a6 ls2.length c6] 35)
    replace sv2 := sv2.alloc (.cells #[.int .i64 day, .slice a6 ls2.length c6] 35)
    obtain ⟨V, hV⟩ : ∃ V, World.alloc w5 (.cells #[.int .i64 day, .slice a6 ls2.length c6] 35) = V := ⟨_, rfl⟩
    rw [hV] at bR bA bB rl rg r1 r2 r3 r4 hB sv1 bC sv2 bD
    have hVh := Lib.hid hV
    clear hV
    have c0_bR := bR.cell0
    have c1_bR := bR.cell1
    have lt_bR := bR.lt
    go_wp2_with fail
    clear c0_bR c1_bR lt_bR
    (try rw [hVh.out])
    go_loopw [16] (fun i wr => ∃ k : Nat, k ≤ live.length ∧ i = .int .i64 k ∧ Below V.heap.size V wr) (fun i _ => live.length - (intOf i).toNat)
    case atStart => exact ⟨0, Nat.zero_le _, rfl, Below.refl _ _⟩
    case round =>
      clear hVh
      obtain ⟨k, hk, rfl, hb⟩ := hrel
      have hK := Lib.hid hb
      replace bR := bR.stp hb
      replace bA := bA.stp hb
      replace bB := bB.stp hb
      replace rl := rl.stp hb
      replace rg := rg.stp hb
      replace r1 := r1.stp hb
      replace r2 := r2.stp hb
      replace r3 := r3.stp hb
      replace r4 := r4.stp hb
      replace hB := bel_stp hB hb
      replace sv1 := sv1.stp hb
      replace bC := bC.stp hb
      replace sv2 := sv2.stp hb
      replace bD := bD.stp hb
      clear hb
      have k0 : (0 : Int) ≤ (k : Int) := by omega
      have e1 : IntKind.i64.wrap ((k : Int) + 1) = (k : Int) + 1 := IntWalk.i64_in _ (by omega)
      by_cases hlt : k < live.length
      case pos =>
        have H_rl := Lib.hid rl
        have H_rg := Lib.hid rg
        have H_r1 := Lib.hid r1
        have H_r2 := Lib.hid r2
        have H_r3 := Lib.hid r3
        have H_r4 := Lib.hid r4
        have H_sv1 := Lib.hid sv1
        have H_sv2 := Lib.hid sv2
        have H_hB := Lib.hid hB
        clear rl rg r1 r2 r3 r4 sv1 sv2 hB
        have k1 : (k : Int) < (live.length : Int) := by omega
        obtain ⟨_, _, e', _, _, _, _, h5⟩ := H_rl.out
        cases e'
        obtain ⟨b0, o0, rfl, hb0, hc0⟩ := h5 (by rintro rfl; simp at hlt)
        have hck := hc0 k hlt
        obtain ⟨z, hz⟩ : ∃ x, live[k]?.getD 0 = x := ⟨_, rfl⟩
        rw [hz] at hck
        have hm : z ∈ live := mem_at hlt hz
        clear hc0 h5 hz
        have D1 := Lib.hid (T1.out z hm)
        have D2 := Lib.hid (T2.out z hm)
        clear hm
        have c0_bR := bR.cell0
        have c1_bR := bR.cell1
        have lt_bR := bR.lt
        have c0_bC := bC.cell0
        have c1_bC := bC.cell1
        have lt_bC := bC.lt
        have c0_bD := bD.cell0
        have c1_bD := bD.cell1
        have lt_bD := bD.lt
        have q_c0_bR := cell_regrown c0_bR
        have q_c1_bR := cell_regrown c1_bR
        have q_c0_bC := cell_regrown c0_bC
        have q_c1_bC := cell_regrown c1_bC
        have q_c0_bD := cell_regrown c0_bD
        have q_c1_bD := cell_regrown c1_bD
        have q_hck := cell_regrown hck
        have q1 : ∀ d os, Calls Try.prog 22 #[.agg #[.int .i64 day, .slice a5 ls1.length c5], .int .i64 z] (grow (redrawn wr d) os) fun e w'' => e = .returned (.bool true) ∧ ∃ p : Regrown, w'' = grow (redrawn wr p.d) p.os := fun d os => Calls.regrown_of (by have bw := below_regrown wr d os; exact (CHas_any day _ ls1 z _ (H_sv1.out.below bw) L1.out).mono (fun _ _ h => ⟨by rw [h.1, D1.out], h.2⟩))
        have q2 : ∀ d os, Calls Try.prog 22 #[.agg #[.int .i64 day, .slice a6 ls2.length c6], .int .i64 z] (grow (redrawn wr d) os) fun e w'' => e = .returned (.bool false) ∧ ∃ p : Regrown, w'' = grow (redrawn wr p.d) p.os := fun d os => Calls.regrown_of (by have bw := below_regrown wr d os; exact (CHas_any day _ ls2 z _ (H_sv2.out.below bw) L2.out).mono (fun _ _ h => ⟨by rw [h.1, D2.out], h.2⟩))
        go_wp2_with fail
        (try rw [hV])
        refine wp_region_quiet_below (by kernel_rfl) (by kernel_rfl) ?_
        repeat (go_big_quiet_step (first | with_reducible exact q1 _ _ | with_reducible exact q2 _ _))
        refine wpQuiet_nil ?_
        intro _ hw'
        obtain ⟨⟨dq, osq⟩, hw''⟩ := hw'
        subst hw''
        go_wp2_with fail
        go_roundw
        case rel => exact ⟨k + 1, by omega, by go_num, hK.out.trans ((below_regrown wr dq osq).mono hK.out.size)⟩
        case measure => simp [intOf]; omega
      obtain rfl : k = live.length := by omega
      have c0_bA := bA.cell0
      have c1_bA := bA.cell1
      have lt_bA := bA.lt
      have c0_bB := bB.cell0
      have c1_bB := bB.cell1
      have lt_bB := bB.lt
      have c0_bR := bR.cell0
      have c1_bR := bR.cell1
      have lt_bR := bR.lt
      go_wp2_with fail
      refine (RSame_any _ _ _ _ live live live live _ r1 r2 r3 r4 (by omega) (by omega) (by omega) (by omega)).mono ?_; rintro e w6 ⟨rfl, hb⟩
      clear c0_bA c1_bA lt_bA c0_bB c1_bB lt_bB c0_bR c1_bR lt_bR
      replace bR := bR.stp hb
      replace bA := bA.stp hb
      replace bB := bB.stp hb
      replace rl := rl.stp hb
      replace rg := rg.stp hb
      replace r1 := r1.stp hb
      replace r2 := r2.stp hb
      replace r3 := r3.stp hb
      replace r4 := r4.stp hb
      replace hB := bel_stp hB hb
      replace sv1 := sv1.stp hb
      replace bC := bC.stp hb
      replace sv2 := sv2.stp hb
      replace bD := bD.stp hb
      clear hb
      simp only [decide_true, Bool.and_self]
      have c0_bA := bA.cell0
      have c1_bA := bA.cell1
      have lt_bA := bA.lt
      have c0_bR := bR.cell0
      have c1_bR := bR.cell1
      have lt_bR := bR.lt
      go_wp2_with fail
      refine (RInts_any _ _ live live _ r2 rl (by omega) (by omega)).mono ?_; rintro e w7 ⟨rfl, hb⟩
      clear c0_bA c1_bA lt_bA c0_bR c1_bR lt_bR
      replace bR := bR.stp hb
      replace bA := bA.stp hb
      replace bB := bB.stp hb
      replace rl := rl.stp hb
      replace rg := rg.stp hb
      replace r1 := r1.stp hb
      replace r2 := r2.stp hb
      replace r3 := r3.stp hb
      replace r4 := r4.stp hb
      replace hB := bel_stp hB hb
      replace sv1 := sv1.stp hb
      replace bC := bC.stp hb
      replace sv2 := sv2.stp hb
      replace bD := bD.stp hb
      clear hb
      rw [decide_eq_true (rfl : live = live)]
      go_wp2_with fail
      go_ret
      exact ⟨rfl, hB⟩
end Go.Proofs.Ytconpdliadhahaa
end
