/-
  The texts Vt Vu Rl in one. (Merged by wip/merge.py.)
-/
import Derived.Test.YtconpdliadhahaaZa
import Derived.Deep.SlicePairs
import Derived.Deep.RegionHeld3
import Derived.Laws.Rows
import Derived.Lib.QuietBelow
import Derived.BigQuiet

section
namespace Go.Proofs.Ytconpdliadhahaa
open Go.RowKit


/-- What becomes of steps: one that is refused changes nothing. -/
def Rv.step (s : List Int × List Int) (x : Int × Int) : List Int × List Int :=
  if x.1 = 0 then (if Rv.addE s.1 s.2 x.2 = 0 then Rv.addR s.1 s.2 x.2 else s) else (if Rv.revE s.1 s.2 x.2 = 0 then Rv.revR s.1 s.2 x.2 else s)
def Rv.steps (s : List Int × List Int) (l : List (Int × Int)) : List Int × List Int := l.foldl Rv.step s
theorem Rv.step_okay {s : List Int × List Int} (h : Rv.okay s.1 s.2) (x : Int × Int) : Rv.okay (Rv.step s x).1 (Rv.step s x).2 := by
  unfold Rv.step
  by_cases h0 : x.1 = 0
  · rw [if_pos h0]
    by_cases h1 : Rv.addE s.1 s.2 x.2 = 0
    · rw [if_pos h1, Rv.addR_zero h1]
      obtain ⟨h2, h3, h4, h5⟩ := (Rv.addE_zero _ _ _).1 h1
      exact Rv.okay_add h2 h3 h4 h5
    · rw [if_neg h1]; exact h
  · rw [if_neg h0]
    by_cases h1 : Rv.revE s.1 s.2 x.2 = 0
    · rw [if_pos h1, Rv.revR_zero h1]
      obtain ⟨h2, h3, h4⟩ := (Rv.revE_zero _ _ _).1 h1
      exact Rv.okay_rev h2 h3 h4
    · rw [if_neg h1]; exact h
theorem Rv.steps_okay : ∀ (l : List (Int × Int)) {s : List Int × List Int}, Rv.okay s.1 s.2 → Rv.okay (Rv.steps s l).1 (Rv.steps s l).2 := by
  intro l
  induction l with
  | nil => intro s h; exact h
  | cons x l ih => intro s h; exact ih (s := Rv.step s x) (Rv.step_okay h x)
theorem Rv.step_mem (s : List Int × List Int) (x : Int × Int) : (∀ y, y ∈ s.1 → y ∈ (Rv.step s x).1) ∧ (∀ y, y ∈ s.2 → y ∈ (Rv.step s x).2) ∧ (∀ y, y ∈ (Rv.step s x).1 → y ∈ s.1 ∨ (x.1 = 0 ∧ x.2 = y)) ∧ (∀ y, y ∈ (Rv.step s x).2 → y ∈ s.2 ∨ (¬ x.1 = 0 ∧ x.2 = y)) := by
  unfold Rv.step
  by_cases h0 : x.1 = 0
  · rw [if_pos h0]
    by_cases h1 : Rv.addE s.1 s.2 x.2 = 0
    · rw [if_pos h1, Rv.addR_zero h1]
      refine ⟨fun y hy => (Rv.mem_ins _ _ _).2 (.inr hy), fun y hy => hy, fun y hy => ?_, fun y hy => .inl hy⟩
      rcases (Rv.mem_ins _ _ _).1 hy with e | hy
      · exact .inr ⟨h0, e.symm⟩
      · exact .inl hy
    · rw [if_neg h1]; exact ⟨fun _ h => h, fun _ h => h, fun _ h => .inl h, fun _ h => .inl h⟩
  · rw [if_neg h0]
    by_cases h1 : Rv.revE s.1 s.2 x.2 = 0
    · rw [if_pos h1, Rv.revR_zero h1]
      refine ⟨fun y hy => hy, fun y hy => (Rv.mem_ins _ _ _).2 (.inr hy), fun y hy => .inl hy, fun y hy => ?_⟩
      rcases (Rv.mem_ins _ _ _).1 hy with e | hy
      · exact .inr ⟨h0, e.symm⟩
      · exact .inl hy
    · rw [if_neg h1]; exact ⟨fun _ h => h, fun _ h => h, fun _ h => .inl h, fun _ h => .inl h⟩
/-- Is a number asked for by a step of a kind (issued: true)? -/
def Rv.asks (l : List (Int × Int)) (issued : Bool) (n : Int) : Prop := ∃ x ∈ l, (decide (x.1 = 0)) = issued ∧ x.2 = n
theorem Rv.steps_mem : ∀ (l : List (Int × Int)) (s : List Int × List Int), (∀ y, y ∈ s.1 → y ∈ (Rv.steps s l).1) ∧ (∀ y, y ∈ s.2 → y ∈ (Rv.steps s l).2) ∧ (∀ y, y ∈ (Rv.steps s l).1 → y ∈ s.1 ∨ Rv.asks l true y) ∧ (∀ y, y ∈ (Rv.steps s l).2 → y ∈ s.2 ∨ Rv.asks l false y) := by
  intro l
  induction l with
  | nil => intro s; exact ⟨fun _ h => h, fun _ h => h, fun _ h => .inl h, fun _ h => .inl h⟩
  | cons x l ih =>
    intro s
    obtain ⟨a1, a2, a3, a4⟩ := Rv.step_mem s x
    obtain ⟨b1, b2, b3, b4⟩ := ih (Rv.step s x)
    refine ⟨fun y hy => b1 y (a1 y hy), fun y hy => b2 y (a2 y hy), fun y hy => ?_, fun y hy => ?_⟩
    · rcases b3 y hy with h | ⟨z, hz, h1, h2⟩
      · rcases a3 y h with h | ⟨h1, h2⟩
        · exact .inl h
        · exact .inr ⟨x, List.mem_cons_self, decide_eq_true h1, h2⟩
      · exact .inr ⟨z, List.mem_cons_of_mem _ hz, h1, h2⟩
    · rcases b4 y hy with h | ⟨z, hz, h1, h2⟩
      · rcases a4 y h with h | ⟨h1, h2⟩
        · exact .inl h
        · exact .inr ⟨x, List.mem_cons_self, decide_eq_false h1, h2⟩
      · exact .inr ⟨z, List.mem_cons_of_mem _ hz, h1, h2⟩
theorem Rv.steps_next (s : List Int × List Int) (l : List (Int × Int)) (k : Nat) (hk : k < l.length) : Rv.steps s (l.take (k + 1)) = Rv.step (Rv.steps s (l.take k)) (l[k]?.getD (0, 0)) := by
  unfold Rv.steps
  rw [List.take_add_one, List.getElem?_eq_getElem hk, List.foldl_append]; rfl
/-- None of the first k asks. -/
def NoAsk (l : List (Int × Int)) (issued : Bool) (n : Int) (k : Nat) : Prop := ∀ i, i < k → ¬ (decide ((l[i]?.getD (0, 0)).1 = 0) = issued ∧ (l[i]?.getD (0, 0)).2 = n)
theorem noAsk_all {l : List (Int × Int)} {b : Bool} {n : Int} (h : NoAsk l b n l.length) : ¬ Rv.asks l b n := fun ⟨x, hx, h1, h2⟩ => by
  obtain ⟨i, hi, rfl⟩ := List.getElem_of_mem hx
  have := h i hi
  rw [List.getElem?_eq_getElem hi] at this
  exact this ⟨h1, h2⟩
theorem ask_at {l : List (Int × Int)} {b : Bool} {n : Int} {k : Nat} (hk : k < l.length) (h1 : decide ((l[k]?.getD (0, 0)).1 = 0) = b) (h2 : (l[k]?.getD (0, 0)).2 = n) : Rv.asks l b n := by
  rw [List.getElem?_eq_getElem hk] at h1 h2
  exact ⟨_, List.getElem_mem hk, h1, h2⟩
instance (l : List (Int × Int)) (b : Bool) (n : Int) : Decidable (Rv.asks l b n) := by unfold Rv.asks; infer_instance
/-- A slice of pairs of numbers. -/
def Prs (w : World) (v : Value) (ls : List (Int × Int)) : Prop :=
  ∃ a cap, v = .slice a ls.length cap ∧ (∀ x ∈ ls, (Lit.int .i64 x.1).wf = true ∧ (Lit.int .i64 x.2).wf = true) ∧
    (ls ≠ [] → ∃ b off, a = some ⟨b, off, none⟩ ∧ b < w.heap.size ∧ ∀ i, i < ls.length →
      w.cell? ⟨b, off + i * 2, none⟩ = some (.int .i64 (ls[i]?.getD (0, 0)).1) ∧ w.cell? ⟨b, off + i * 2 + 1, none⟩ = some (.int .i64 (ls[i]?.getD (0, 0)).2))
theorem Prs.below {w w' : World} {v : Value} {ls : List (Int × Int)} (h : Prs w v ls) (hb : Below w.heap.size w w') : Prs w' v ls := by
  obtain ⟨a, cap, h1, h0, h5⟩ := h
  refine ⟨a, cap, h1, h0, fun hne => ?_⟩
  obtain ⟨b, off, e, hlt, hc⟩ := h5 hne
  refine ⟨b, off, e, Nat.lt_of_lt_of_le hlt hb.size, fun i hi => ?_⟩
  obtain ⟨k0, k1⟩ := hc i hi
  exact ⟨(hb.cell (p := ⟨b, _, none⟩) hlt).trans k0, (hb.cell (p := ⟨b, _, none⟩) hlt).trans k1⟩
theorem Prs.shape {w : World} {v : Value} {ls : List (Int × Int)} (h : Prs w v ls) : ∃ a c, v = .slice a ls.length c := by
  obtain ⟨a, c, e, -⟩ := h
  exact ⟨a, c, e⟩
theorem Prs.alloc {w : World} {v : Value} {ls : List (Int × Int)} (h : Prs w v ls) (o : Obj) : Prs (w.alloc o) v ls := h.below ((Below.refl _ w).alloc (Nat.le_refl _) o)
theorem Prs.stp {w w' : World} {v : Value} {ls : List (Int × Int)} (h : Prs w v ls) (s : Stp w w') : Prs w' v ls := h.below s
/-- A store elsewhere. -/
theorem Prs.aside {w : World} {v : Value} {ls : List (Int × Int)} (h : Prs w v ls) {p : Addr} (hp : Off p.block v) (u : Value) : Prs (w.setCell p u) v ls := by
  obtain ⟨a, cap, h1, h0, h5⟩ := h
  refine ⟨a, cap, h1, h0, fun hne => ?_⟩
  obtain ⟨b, off, e, hlt, hc⟩ := h5 hne
  subst e
  have hl : 0 < ls.length := by cases ls with | nil => exact absurd rfl hne | cons => simp
  have hx : ∀ o : Nat, p ≠ ⟨b, o, none⟩ := fun o e => hp _ _ _ _ h1 hl (by rw [e])
  refine ⟨b, off, rfl, by simpa using hlt, fun i hi => ?_⟩
  exact ⟨(World.cell?_setCell_other w p _ u (hx _)).trans (hc i hi).1, (World.cell?_setCell_other w p _ u (hx _)).trans (hc i hi).2⟩
theorem Prs.off_duo {W : World} {R : Nat} {t : TypeId} {a1 a2 : Option Addr} {n1 n2 c1 c2 : Nat} {v : Value} {l : List (Int × Int)} (h : Prs W v l) (hd : Duo W R t (.slice a1 n1 c1) (.slice a2 n2 c2)) : Off R v := fun b o n c e hn he => by
  obtain ⟨a, cap, e2, _, hc⟩ := h
  rw [e] at e2
  cases e2
  obtain ⟨b2, o2, e3, _, hcell⟩ := hc (by rintro rfl; simp at hn)
  cases e3
  subst he
  have h0 := (hcell 0 (by omega)).1
  simp only [World.cell?, show W.heap[b]? = _ from hd, Nat.zero_mul, Nat.add_zero] at h0
  match o, h0 with
  | 0, h0 => simp at h0
  | 1, h0 => simp at h0
  | k + 2, h0 => simp at h0
/-- A block to come. -/
def Fresh (V : World) (g : Nat) : Prop := V.heap.size ≤ g
/-- A block of old. -/
def Old (V : World) (b : Nat) : Prop := b < V.heap.size
theorem Fresh.ne {V : World} {g b : Nat} (h : Fresh V g) (hb : b < V.heap.size) : ¬ b = g := by unfold Fresh at h; omega
/-- A cell holds a value. -/
def CellIs (W : World) (b o : Nat) (v : Value) : Prop := b < W.heap.size ∧ W.cell? ⟨b, o, none⟩ = some v
theorem CellIs.stp {w w' : World} {b o : Nat} {v : Value} (h : CellIs w b o v) (s : Stp w w') : CellIs w' b o v := ⟨Nat.lt_of_lt_of_le h.1 s.size, (Below.cell s (p := ⟨b, o, none⟩) h.1).trans h.2⟩
theorem CellIs.alloc {w : World} {b o : Nat} {v : Value} (h : CellIs w b o v) (x : Obj) : CellIs (w.alloc x) b o v := h.stp ((Below.refl _ w).alloc (Nat.le_refl _) x)
theorem CellIs.other {w : World} {b o : Nat} {v : Value} (h : CellIs w b o v) {p : Addr} (hp : p.block ≠ b) (u : Value) : CellIs (w.setCell p u) b o v :=
  ⟨by simpa using h.1, (World.cell?_setCell_other w p _ u (fun e => hp (by rw [e]))).trans h.2⟩
set_option maxRecDepth 100000 in
theorem steps_open {H : Type} {enc : TypeId × Value → H} {W : World} {b0 base : Nat} {v : Value} {d : DataW H} {p : List MemPlace} (hv : Value.okWide Try.prog W .any b0 43 v)
    (h : DataW.Trod enc Try.prog W base (fun _ => true) true 43 v d p) : ∃ x : List (Int × Int), Prs W v x := by
  obtain ⟨va, vl, vc, rfl⟩ := Go.WideShapes.okWide_slice Try.underlying43 hv
  obtain ⟨fuel, h⟩ := h
  rcases Go.Deep.open_slice_pairs Try.underlying43 Try.underlying63 (by kernel_rfl) rfl rfl (by kernel_rfl) (by kernel_rfl) h with ⟨hcs, _⟩ | ⟨a, len, cap, m, n, V0, V1, D0, D1, P0, P1, hcs, _, hl, hm, hmm, _, hc⟩
  · simp [Value.cells] at hcs
    obtain ⟨rfl, rfl, rfl⟩ := hcs
    exact ⟨[], none, 0, rfl, by simp, fun h => absurd rfl h⟩
  · simp [Value.cells] at hcs
    obtain ⟨rfl, rfl, rfl⟩ := hcs
    rw [if_pos rfl] at hmm
    have each : ∀ i, i < vl → ∃ q : Int × Int, V0 i = .int .i64 q.1 ∧ V1 i = .int .i64 q.2 ∧ (Lit.int .i64 q.1).wf = true ∧ (Lit.int .i64 q.2).wf = true := by
      intro i hi
      obtain ⟨_, _, t0, t1⟩ := hc i (by omega)
      obtain ⟨n0, e0, -, w0⟩ := DataW.trod_int Try.underlying3 t0
      obtain ⟨n1, e1, -, w1⟩ := DataW.trod_int Try.underlying3 t1
      exact ⟨(n0, n1), by simpa using e0, by simpa using e1, w0, w1⟩
    obtain ⟨q, hq⟩ := Go.Deep.choose_lt each
    have hlen : ((List.range vl).map q).length = vl := by simp
    have hget : ∀ i, i < vl → ((List.range vl).map q)[i]?.getD (0, 0) = q i := fun i hi => by simp [hi]
    refine ⟨(List.range vl).map q, some a, vc, by rw [hlen], fun x hx => ?_, fun hne => ?_⟩
    · obtain ⟨i, hi, rfl⟩ := List.mem_map.1 hx
      exact (hq i (List.mem_range.1 hi)).2.2
    · have h0 : 0 < vl := by
        apply Nat.pos_of_ne_zero; rintro rfl; simp at hne
      obtain ⟨b, off, spot⟩ := a
      have hc0 := (hc 0 (by omega)).1
      have hspot : spot = none := by simpa [Addr.add] using World.cell?_spot hc0
      subst hspot
      refine ⟨b, off, rfl, ?_, fun i hi => ?_⟩
      · have := World.block_lt_of_cell? W _ hc0; simpa [Addr.add] using this
      · rw [hlen] at hi
        rw [hget i hi]
        obtain ⟨k0, k1, -, -⟩ := hc i (by omega)
        obtain ⟨e0, e1, -, -⟩ := hq i hi
        rw [addr_add] at k0 k1
        rw [← e0, ← e1]
        exact ⟨k0, k1⟩
set_option maxRecDepth 100000 in
set_option maxHeartbeats 8000000 in
theorem asked0_any (v : Value) (l : List (Int × Int)) (n : Int) (w : World) (h : Prs w v l) (hl : l.length ≤ 1000000) :
    Calls Try.prog 27 #[v, .int .i64 0, .int .i64 n] w fun e w' => e = .returned (.bool (decide (Rv.asks l true n))) ∧ w = w' := by
  obtain ⟨a, cap, rfl⟩ := h.shape
  have H := Lib.hid h
  clear h
  go_enter Try.func27, Try.ntmps27
  go_wp2_with fail
  go_loop [7] (fun i => ∃ k : Nat, i = .int .i64 k ∧ k ≤ l.length ∧ NoAsk l true n k) (fun i => l.length - (intOf i).toNat)
  case atStart => exact ⟨0, rfl, Nat.zero_le _, fun i hi => absurd hi (Nat.not_lt_zero _)⟩
  case round =>
    obtain ⟨k, rfl, hk, hN⟩ := hrel
    have HN := Lib.hid hN
    clear hN
    have k0 : (0 : Int) ≤ (k : Int) := by omega
    have e1 : IntKind.i64.wrap ((k : Int) + 1) = (k : Int) + 1 := IntWalk.i64_in _ (by omega)
    by_cases hlt : k < l.length
    · obtain ⟨_, _, e', _, h5⟩ := H.out
      cases e'
      obtain ⟨b0, o0, rfl, hb0, hc0⟩ := h5 (by rintro rfl; simp at hlt)
      obtain ⟨hck, hdk⟩ := hc0 k hlt
      obtain ⟨x, hx⟩ : ∃ x, (l[k]?.getD (0, 0)).1 = x := ⟨_, rfl⟩
      obtain ⟨y, hy⟩ : ∃ x, (l[k]?.getD (0, 0)).2 = x := ⟨_, rfl⟩
      rw [hx] at hck
      rw [hy] at hdk
      have HX := Lib.hid hx; have HY := Lib.hid hy
      have k1 : (k : Int) < (l.length : Int) := by omega
      clear hc0 h5 hx hy
      by_cases hz : x = 0
      · subst hz
        by_cases hyn : y = n
        · subst hyn
          have hm := Lib.hid (ask_at (b := true) (n := y) hlt (by rw [HX.out]; exact decide_eq_true rfl) HY.out)
          go_wp2_with fail
          go_ret
          exact ⟨ret_bool (decide_eq_true hm.out).symm, rfl⟩
        · go_wp2_with fail
          go_round
          case rel =>
            refine ⟨k + 1, by go_num, by omega, fun i hi => ?_⟩
            rcases Nat.lt_or_ge i k with h | h
            · exact HN.out i h
            · obtain rfl : i = k := by omega
              rw [HX.out, HY.out]; exact fun h => hyn h.2
          case measure => simp [intOf]; omega
      · go_wp2_with fail
        go_round
        case rel =>
          refine ⟨k + 1, by go_num, by omega, fun i hi => ?_⟩
          rcases Nat.lt_or_ge i k with h | h
          · exact HN.out i h
          · obtain rfl : i = k := by omega
            rw [HX.out, HY.out]; exact fun h => hz (of_decide_eq_true h.1)
        case measure => simp [intOf]; omega
    · obtain rfl : k = l.length := by omega
      go_wp2_with fail
      go_ret
      exact ⟨ret_bool (decide_eq_false (noAsk_all HN.out)).symm, rfl⟩
set_option maxRecDepth 100000 in
set_option maxHeartbeats 8000000 in
theorem asked1_any (v : Value) (l : List (Int × Int)) (n : Int) (w : World) (h : Prs w v l) (hl : l.length ≤ 1000000) :
    Calls Try.prog 27 #[v, .int .i64 1, .int .i64 n] w fun e w' => e = .returned (.bool (decide (Rv.asks l false n))) ∧ w = w' := by
  obtain ⟨a, cap, rfl⟩ := h.shape
  have H := Lib.hid h
  clear h
  go_enter Try.func27, Try.ntmps27
  go_wp2_with fail
  go_loop [7] (fun i => ∃ k : Nat, i = .int .i64 k ∧ k ≤ l.length ∧ NoAsk l false n k) (fun i => l.length - (intOf i).toNat)
  case atStart => exact ⟨0, rfl, Nat.zero_le _, fun i hi => absurd hi (Nat.not_lt_zero _)⟩
  case round =>
    obtain ⟨k, rfl, hk, hN⟩ := hrel
    have HN := Lib.hid hN
    clear hN
    have k0 : (0 : Int) ≤ (k : Int) := by omega
    have e1 : IntKind.i64.wrap ((k : Int) + 1) = (k : Int) + 1 := IntWalk.i64_in _ (by omega)
    by_cases hlt : k < l.length
    · obtain ⟨_, _, e', _, h5⟩ := H.out
      cases e'
      obtain ⟨b0, o0, rfl, hb0, hc0⟩ := h5 (by rintro rfl; simp at hlt)
      obtain ⟨hck, hdk⟩ := hc0 k hlt
      obtain ⟨x, hx⟩ : ∃ x, (l[k]?.getD (0, 0)).1 = x := ⟨_, rfl⟩
      obtain ⟨y, hy⟩ : ∃ x, (l[k]?.getD (0, 0)).2 = x := ⟨_, rfl⟩
      rw [hx] at hck
      rw [hy] at hdk
      have HX := Lib.hid hx; have HY := Lib.hid hy
      have k1 : (k : Int) < (l.length : Int) := by omega
      clear hc0 h5 hx hy
      by_cases hz : x = 0
      · subst hz
        go_wp2_with fail
        go_round
        case rel =>
          refine ⟨k + 1, by go_num, by omega, fun i hi => ?_⟩
          rcases Nat.lt_or_ge i k with h | h
          · exact HN.out i h
          · obtain rfl : i = k := by omega
            rw [HX.out, HY.out]; exact fun h => by exact absurd h.1 (by simp)
        case measure => simp [intOf]; omega
      · have hz2 : (x != 0) = true := by simpa using hz
        by_cases hyn : y = n
        · subst hyn
          have hm := Lib.hid (ask_at (b := false) (n := y) hlt (by rw [HX.out]; exact decide_eq_false hz) HY.out)
          go_wp2_with fail
          go_ret
          exact ⟨ret_bool (decide_eq_true hm.out).symm, rfl⟩
        · have hyn2 : (y == n) = false := by simpa using hyn
          go_wp2_with fail
          go_round
          case rel =>
            refine ⟨k + 1, by go_num, by omega, fun i hi => ?_⟩
            rcases Nat.lt_or_ge i k with h | h
            · exact HN.out i h
            · obtain rfl : i = k := by omega
              rw [HX.out, HY.out]; exact fun h => hyn h.2
          case measure => simp [intOf]; omega
    · obtain rfl : k = l.length := by omega
      go_wp2_with fail
      go_ret
      exact ⟨ret_bool (decide_eq_false (noAsk_all HN.out)).symm, rfl⟩

end Go.Proofs.Ytconpdliadhahaa
end

section
namespace Go.Proofs.Ytconpdliadhahaa
open Go.RowKit

set_option maxRecDepth 100000 in
set_option maxHeartbeats 8000000 in
theorem Done_any (vl vg v : Value) (live gone : List Int) (ls : List (Int × Int)) (L G : List Int) (x y : Nat) (w : World) (h : Row .i64 w vl live) (hg : Row .i64 w vg gone) (hp : Prs w v ls) (ho : Rv.okay live gone) (hn : ls.length ≤ 1000) (hs : Rv.steps (live, gone) ls = (L, G)) (hx : L.length = x) (hy : G.length = y) :
    Calls Try.prog 26 #[.agg #[vl, vg], v] w fun e w' => (∃ a1 c1 a2 c2, e = .returned (.agg #[.slice a1 x c1, .slice a2 y c2]) ∧ Row .i64 w' (.slice a1 x c1) L ∧ Row .i64 w' (.slice a2 y c2) G) ∧ Below w.heap.size w w' := by
  obtain ⟨al, cl, rfl⟩ := h.shape live.length rfl
  obtain ⟨ag, cg, rfl⟩ := hg.shape gone.length rfl
  obtain ⟨ap, cp, rfl⟩ := hp.shape
  obtain ⟨R, hR⟩ : ∃ R, w.heap.size = R := ⟨_, rfl⟩
  obtain ⟨Z, hZ0⟩ : ∃ Z, R + 1 = Z := ⟨_, rfl⟩
  obtain ⟨N, hN⟩ : ∃ N, ls.length = N := ⟨_, rfl⟩
  obtain ⟨W, hW⟩ : ∃ W, (w.alloc (.cells #[.slice al live.length cl, .slice ag gone.length cg] 24)).alloc (.cells #[.slice none 0 0, .slice none 0 0] 24) = W := ⟨_, rfl⟩
  have hB : Below w.heap.size w W := by rw [← hW]; exact ((Below.refl w.heap.size w).alloc (Nat.le_refl _) _).alloc (by simp) _
  have bR : Duo W R 24 (.slice al live.length cl) (.slice ag gone.length cg) := by rw [← hW, ← hR]; exact (Duo.new w 24 _ _).alloc _
  have bZ : Duo W Z 24 (.slice none 0 0) (.slice none 0 0) := by rw [← hW]; exact Duo.new' _ _ _ _ _ (by simp [← hZ0, hR])
  have r1 := h.below hB; have r2 := hg.below hB; have rp := hp.below hB
  have HW := Lib.hid hW; have HR := Lib.hid hR; have HZ := Lib.hid hZ0; have HN := Lib.hid hN; have HS := Lib.hid hs; have HX := Lib.hid hx; have HY := Lib.hid hy; have HO := Lib.hid ho
  have nRZ : ¬ R = Z := by omega
  rw [hN] at hn
  rw [hN] at rp ⊢
  have RP := Lib.hid rp; have R1 := Lib.hid r1; have R2 := Lib.hid r2; have HB := Lib.hid hB
  clear h hg hp hW hR hZ0 hN hs hx hy ho rp r1 r2 hB
  go_enter Try.func26, Try.ntmps26
  go_wp2_with fail
  rw [HW.out]
  (try rw [HR.out])
  (try rw [HZ.out])
  (try go_wp2_with fail)
  go_loopw [5, 6, 7] (fun i _ _ wr => ∃ (k : Nat) (A B : List Int) (a1 a2 : Option Addr) (c1 c2 : Nat), i = .int .i64 k ∧ k ≤ N ∧ Duo wr R 24 (.slice a1 A.length c1) (.slice a2 B.length c2) ∧ Duo wr Z 24 (.slice none 0 0) (.slice none 0 0) ∧ Row .i64 wr (.slice a1 A.length c1) A ∧ Row .i64 wr (.slice a2 B.length c2) B ∧ Prs wr (.slice ap N cp) ls ∧ Below w.heap.size w wr ∧ Hid (Rv.steps (live, gone) (ls.take k) = (A, B)) ∧ Hid (Rv.okay A B)) (fun i _ _ _ => N - (intOf i).toNat)
  case atStart => exact ⟨0, live, gone, al, ag, cl, cg, rfl, Nat.zero_le _, bR, bZ, R1.out, R2.out, RP.out, HB.out, Lib.hid rfl, HO⟩
  case round =>
    clear bR bZ
    obtain ⟨k, A, B, a1, a2, c1, c2, rfl, hk, bR, bZ, r1, r2, rp, hB, HT, HK⟩ := hrel
    have k0 : (0 : Int) ≤ (k : Int) := by omega
    have e1 : IntKind.i64.wrap ((k : Int) + 1) = (k : Int) + 1 := IntWalk.i64_in _ (by omega)
    have lA : A.length ≤ 256 := HK.out.2
    have lB : B.length ≤ 256 := Rv.gone_le HK.out
    by_cases hlt : k < N
    case neg =>
      have hkn : k = ls.length := by have := HN.out; omega
      have hT := HT.out
      rw [hkn, List.take_length, HS.out] at hT
      injection hT with hT1 hT2
      have hZl := bZ.free 0; have hZm := bZ.free 1; have d0 := bZ.cell0; have d1 := bZ.cell1; have ltZ := bZ.lt
      have c0_bR := bR.cell0
      have c1_bR := bR.cell1
      have lt_bR := bR.lt
      go_wp2_with fail
      have hzz := (bZ.set0 (.slice a1 A.length c1)).set1 (.slice a2 B.length c2)
      have o1 := r1.off_duo bZ; have o2 := r2.off_duo bZ
      have hbz := HZ.out; have hbr := HR.out
      refine bodyPost_ret (results_cell_row rfl _ _ Z _ _ _ _ rfl hzz rfl rfl rfl) rfl ?_
      rw [← HX.out, ← HY.out, hT1, hT2]
      exact ⟨⟨a1, c1, a2, c2, rfl, (r1.aside (p := ⟨Z, 0, none⟩) o1 _).aside (p := ⟨Z, 1, none⟩) o1 _, (r2.aside (p := ⟨Z, 0, none⟩) o2 _).aside (p := ⟨Z, 1, none⟩) o2 _⟩, bel_set (bel_set hB (p := ⟨Z, 0, none⟩) (by show w.heap.size ≤ Z; omega) _) (p := ⟨Z, 1, none⟩) (by show w.heap.size ≤ Z; omega) _⟩
    have k1 : (k : Int) < (N : Int) := by omega
    obtain ⟨b0, o0, rfl, hb0, hc0⟩ : ∃ b off, ap = some ⟨b, off, none⟩ ∧ b < wr.heap.size ∧ ∀ i, i < N → wr.cell? ⟨b, off + i * 2, none⟩ = some (.int .i64 (ls[i]?.getD (0, 0)).1) ∧ wr.cell? ⟨b, off + i * 2 + 1, none⟩ = some (.int .i64 (ls[i]?.getD (0, 0)).2) := by
      obtain ⟨_, _, e', _, h5⟩ := rp
      cases e'
      exact h5 (by rintro rfl; simp at hlt)
    obtain ⟨hck, hdk⟩ := hc0 k hlt
    have hstep := Rv.steps_next (live, gone) ls k (by have := HN.out; omega)
    rw [HT.out] at hstep
    have hwn : (Lit.int .i64 (ls[k]?.getD (0, 0)).2).wf = true := by
      obtain ⟨_, _, _, h0, _⟩ := rp
      have hkl : k < ls.length := by have := HN.out; omega
      rw [List.getElem?_eq_getElem hkl]
      exact (h0 _ (List.getElem_mem hkl)).2
    obtain ⟨q, hq⟩ : ∃ q, (ls[k]?.getD (0, 0)) = q := ⟨_, rfl⟩
    rw [hq] at hck hdk hstep hwn
    obtain ⟨kd, n⟩ := q
    have HQ := Lib.hid hq; have HWn := Lib.hid hwn
    clear hc0 hq hwn
    have hbo : ¬ b0 = R := fun e => rp.off_duo bR _ _ _ _ rfl (by omega) e
    skip
    obtain ⟨E, hE⟩ : ∃ E, Rv.addE A B n = E := ⟨_, rfl⟩
    obtain ⟨P1, hP1⟩ : ∃ P, (Rv.addR A B n).1 = P := ⟨_, rfl⟩
    obtain ⟨P2, hP2⟩ : ∃ P, (Rv.addR A B n).2 = P := ⟨_, rfl⟩
    have hPP : Rv.addR A B n = (P1, P2) := by rw [← hP1, ← hP2]
    obtain ⟨F, hF⟩ : ∃ E, Rv.revE A B n = E := ⟨_, rfl⟩
    obtain ⟨Q1, hQ1⟩ : ∃ P, (Rv.revR A B n).1 = P := ⟨_, rfl⟩
    obtain ⟨Q2, hQ2⟩ : ∃ P, (Rv.revR A B n).2 = P := ⟨_, rfl⟩
    have hQQ : Rv.revR A B n = (Q1, Q2) := by rw [← hQ1, ← hQ2]
    have hstep2 : Rv.steps (live, gone) (ls.take (k + 1)) = if kd = 0 then (if E = 0 then (P1, P2) else (A, B)) else (if F = 0 then (Q1, Q2) else (A, B)) := by rw [hstep]; unfold Rv.step; rw [hE, hF, hPP, hQQ]
    have hokn := Rv.step_okay (s := (A, B)) HK.out (kd, n)
    rw [← hstep] at hokn
    have HE := Lib.hid hE; have HF := Lib.hid hF; have HPP := Lib.hid hPP; have HQQ := Lib.hid hQQ; have HS2 := Lib.hid hstep2; have HOK := Lib.hid hokn; have ek : CellIs wr b0 (o0 + k * 2) (.int .i64 kd) := ⟨hb0, hck⟩; have en : CellIs wr b0 (o0 + k * 2 + 1) (.int .i64 n) := ⟨hb0, hdk⟩; have LtR : Old wr R := bR.lt; have LtB : Old wr b0 := hb0; have LtZ : Old wr Z := bZ.lt
    clear hE hF hP1 hP2 hPP hQ1 hQ2 hQQ hstep hstep2 hokn hck hdk hb0 HT HK HQ
    have c0_bR := bR.cell0
    have c1_bR := bR.cell1
    have lt_bR := bR.lt
    have en2 := en.2
    have nV0 : ¬ R = wr.heap.size := by have := lt_bR; omega
    have mV0 : ¬ wr.heap.size = R := fun h => nV0 h.symm
    have nV1 : ¬ b0 = wr.heap.size := by have := en.1; omega
    have mV1 : ¬ wr.heap.size = b0 := fun h => nV1 h.symm
    go_wp2_with fail
    go_region_held3 (fun w' => w'.cell? ⟨R, 0, none⟩ = some (.slice a1 A.length c1) ∧ w'.cell? ⟨R, 1, none⟩ = some (.slice a2 B.length c2) ∧ w'.cell? ⟨b0, o0 + k * 2 + 1, none⟩ = some (.int .i64 n))
      (first | go_keep | (refine ⟨?_, ?_, ?_⟩ <;> assumption) | trivial | (go_simp; done) | (refine ⟨?_, ?_, ?_⟩ <;> (first | assumption | trivial | (go_simp; done) | (go_simp; assumption))))
      (first
        | (go_at_call 11
           refine (Add_is _ _ A B n E P1 P2 _ _ _ (by first | exact r1 | exact r1.alloc _) (by first | exact r2 | exact r2.alloc _) (by omega) (by omega) HWn.out HE.out HPP.out rfl rfl).mono ?_
           rintro e u2 ⟨⟨a3, c3, a4, c4, rfl, r3, r4⟩, hb2⟩
           first | (have hW2 : Below wr.heap.size wr u2 := bel_stp (bel_drew (Below.refl wr.heap.size wr)) hb2) | (have hW2 : Below wr.heap.size wr u2 := bel_stp (bel_drew (bel_alloc (Below.refl wr.heap.size wr) _)) hb2)
           have x0 : u2.cell? ⟨R, 0, none⟩ = some (.slice a1 A.length c1) := (hW2.cell (p := ⟨R, 0, none⟩) lt_bR).trans c0_bR
           have x1 : u2.cell? ⟨R, 1, none⟩ = some (.slice a2 B.length c2) := (hW2.cell (p := ⟨R, 1, none⟩) lt_bR).trans c1_bR
           have x2 : u2.cell? ⟨b0, o0 + k * 2 + 1, none⟩ = some (.int .i64 n) := (hW2.cell (p := ⟨b0, o0 + k * 2 + 1, none⟩) en.1).trans en.2
           have nW0 : ¬ R = u2.heap.size := by have := lt_bR; have := hW2.size; omega
           have mW0 : ¬ u2.heap.size = R := fun h => nW0 h.symm
           have lW0 : R < u2.heap.size := by have := lt_bR; have := hW2.size; omega
           have nW1 : ¬ b0 = u2.heap.size := by have := en.1; have := hW2.size; omega
           have mW1 : ¬ u2.heap.size = b0 := fun h => nW1 h.symm
           have lW1 : b0 < u2.heap.size := by have := en.1; have := hW2.size; omega
           first | (have zz : Duo u2 wr.heap.size 24 (.slice none 0 0) (.slice none 0 0) := ?_; rotate_left; (focus (refine Duo.stp ?_ hb2; refine Duo.drew ?_; refine Duo.new' _ _ _ _ _ ?_; rfl)); have z0 := zz.cell0; have z1 := zz.cell1; have z2 := zz.free 0; have z3 := zz.free 1) | skip)
        | fail)
    all_goals
      clear nV0 mV0 nV1 mV1 x0 x1 x2 nW0 mW0 lW0 nW1 mW1 lW1
      clear c0_bR c1_bR lt_bR
      first
        | (have bX := (zz.set0 (.slice a3 P1.length c3)).set1 (.slice a4 P2.length c4)
           have o_r3 := r3.off_duo zz
           have o_r4 := r4.off_duo zz
           have hx : Stp wr _ := bel_set (bel_set hW2 (p := ⟨wr.heap.size, 0, none⟩) (Nat.le_refl _) (.slice a3 P1.length c3)) (p := ⟨wr.heap.size, 1, none⟩) (Nat.le_refl _) (.slice a4 P2.length c4)
           replace r3 := (Row.aside r3 (p := ⟨wr.heap.size, 0, none⟩) o_r3 (.slice a3 P1.length c3)).aside (p := ⟨wr.heap.size, 1, none⟩) o_r3 (.slice a4 P2.length c4)
           replace r4 := (Row.aside r4 (p := ⟨wr.heap.size, 0, none⟩) o_r4 (.slice a3 P1.length c3)).aside (p := ⟨wr.heap.size, 1, none⟩) o_r4 (.slice a4 P2.length c4)
           have fg : Fresh wr wr.heap.size := Nat.le_refl _
           clear zz z0 z1 z2 z3 hb2 hW2 o_r3 o_r4
           generalize hX : World.setCell (World.setCell u2 ⟨wr.heap.size, 0, none⟩ (.slice a3 P1.length c3)) ⟨wr.heap.size, 1, none⟩ (.slice a4 P2.length c4) = X2 at *
           generalize hg : wr.heap.size = g2 at *
           clear hX hg)
        | (have bX := Duo.new u2 24 (.slice a3 P1.length c3) (.slice a4 P2.length c4)
           have hx : Stp wr _ := bel_alloc hW2 (.cells #[(.slice a3 P1.length c3), (.slice a4 P2.length c4)] 24)
           replace r3 := r3.alloc (.cells #[(.slice a3 P1.length c3), (.slice a4 P2.length c4)] 24)
           replace r4 := r4.alloc (.cells #[(.slice a3 P1.length c3), (.slice a4 P2.length c4)] 24)
           have fg : Fresh wr u2.heap.size := hW2.size
           clear hb2 hW2
           generalize hX : World.alloc u2 (.cells #[(.slice a3 P1.length c3), (.slice a4 P2.length c4)] 24) = X2 at *
           generalize hg : u2.heap.size = g2 at *
           clear hX hg)
      have hb := hx
      clear hx
      replace bR := bR.stp hb
      replace bZ := bZ.stp hb
      replace r1 := r1.stp hb
      replace r2 := r2.stp hb
      replace rp := rp.stp hb
      replace hB := bel_stp hB hb
      replace ek := ek.stp hb
      replace en := en.stp hb
      clear hb
      have nR := fg.ne LtR; have nB := fg.ne LtB; have nZ := fg.ne LtZ
      have NE_R_g2 : ¬ R = g2 := nR
      have NE_b0_g2 : ¬ b0 = g2 := nB
      have NB_g2_bR : g2 ≠ R := fun h => nR h.symm
      have NB_g2_bZ : g2 ≠ Z := fun h => nZ h.symm
      have NB_g2_ek : g2 ≠ b0 := fun h => nB h.symm
      have NB_g2_en : g2 ≠ b0 := fun h => nB h.symm
      have BE_g2 : w.heap.size ≤ g2 := by have := HR.out; have h1 := LtR; unfold Old at h1; unfold Fresh at fg; omega
      clear fg nB nZ
      have ek2 := ek.2
      by_cases hkd : kd = 0
      case pos =>
        have HKd := Lib.hid hkd
        by_cases hE0 : E = 0
        case pos =>
          have HE0 := Lib.hid hE0
          have c0_bR := bR.cell0
          have c1_bR := bR.cell1
          have lt_bR := bR.lt
          have c0_bX := bX.cell0
          have c1_bX := bX.cell1
          have lt_bX := bX.lt
          have fr0 := bR.free 0; have fr1 := bR.free 1
          go_wp2_with fail
          go_roundw
          case rel =>
            have o3 := r3.off_duo bR; have o4 := r4.off_duo bR; have op := rp.off_duo bR
            have hRw : w.heap.size ≤ R := by have := HR.out; omega
            have HS3 := HS2.out
            rw [if_pos HKd.out, if_pos HE0.out] at HS3
            exact ⟨k + 1, P1, P2, _, _, _, _, by go_num, by omega, (bR.set0 _).set1 _, (bZ.other (p := ⟨R, 0, none⟩) nRZ _).other (p := ⟨R, 1, none⟩) nRZ _, (Row.aside r3 (p := ⟨R, 0, none⟩) o3 _).aside (p := ⟨R, 1, none⟩) o3 _, (Row.aside r4 (p := ⟨R, 0, none⟩) o4 _).aside (p := ⟨R, 1, none⟩) o4 _, (rp.aside (p := ⟨R, 0, none⟩) op _).aside (p := ⟨R, 1, none⟩) op _, bel_set (bel_set hB (p := ⟨R, 0, none⟩) hRw _) (p := ⟨R, 1, none⟩) hRw _, Lib.hid HS3, Lib.hid (by have := HOK.out; rw [HS3] at this; exact this)⟩
          case measure => simp [intOf]; omega
        have HE0 := Lib.hid hE0
        have c0_bR := bR.cell0
        have c1_bR := bR.cell1
        have lt_bR := bR.lt
        have c0_bX := bX.cell0
        have c1_bX := bX.cell1
        have lt_bX := bX.lt
        go_wp2_with fail
        go_roundw
        case rel =>
          have HS3 := HS2.out
          rw [if_pos HKd.out, if_neg HE0.out] at HS3
          exact ⟨k + 1, A, B, _, _, _, _, by go_num, by omega, bR, bZ, r1, r2, rp, hB, Lib.hid HS3, Lib.hid (by have := HOK.out; rw [HS3] at this; exact this)⟩
        case measure => simp [intOf]; omega
      have HKd := Lib.hid hkd
      have en3 := en.2
      have c0_bR := bR.cell0
      have c1_bR := bR.cell1
      have lt_bR := bR.lt
      have c0_bX := bX.cell0
      have c1_bX := bX.cell1
      have lt_bX := bX.lt
      have nV0 : ¬ R = X2.heap.size := by have := lt_bR; omega
      have mV0 : ¬ X2.heap.size = R := fun h => nV0 h.symm
      have nV1 : ¬ b0 = X2.heap.size := by have := en.1; omega
      have mV1 : ¬ X2.heap.size = b0 := fun h => nV1 h.symm
      have oz0 := bX.free 0; have oz1 := bX.free 1; have oz2 := bX.lt; have oz3 := bX.cell0; have oz4 := bX.cell1
      have nO0 : ¬ R = g2 := NE_R_g2
      have mO0 : ¬ g2 = R := fun h => nO0 h.symm
      have nO1 : ¬ b0 = g2 := NE_b0_g2
      have mO1 : ¬ g2 = b0 := fun h => nO1 h.symm
      go_wp2_with fail
      go_region_held3 (fun w' => w'.cell? ⟨R, 0, none⟩ = some (.slice a1 A.length c1) ∧ w'.cell? ⟨R, 1, none⟩ = some (.slice a2 B.length c2) ∧ w'.cell? ⟨b0, o0 + k * 2 + 1, none⟩ = some (.int .i64 n))
        (first | go_keep | (refine ⟨?_, ?_, ?_⟩ <;> assumption) | trivial | (go_simp; done) | (refine ⟨?_, ?_, ?_⟩ <;> (first | assumption | trivial | (go_simp; done) | (go_simp; assumption))))
        (first
          | (go_at_call 13
             refine (Rev_is _ _ A B n F Q1 Q2 _ _ _ (by first | exact r1 | exact r1.alloc _) (by first | exact r2 | exact r2.alloc _) (by omega) (by omega) HWn.out HF.out HQQ.out rfl rfl).mono ?_
             rintro e u4 ⟨⟨a5, c5, a6, c6, rfl, r5, r6⟩, hb2⟩
             first | (have hW2 : Below X2.heap.size X2 u4 := bel_stp (bel_drew (Below.refl X2.heap.size X2)) hb2) | (have hW2 : Below X2.heap.size X2 u4 := bel_stp (bel_drew (bel_alloc (Below.refl X2.heap.size X2) _)) hb2)
             have x0 : u4.cell? ⟨R, 0, none⟩ = some (.slice a1 A.length c1) := (hW2.cell (p := ⟨R, 0, none⟩) lt_bR).trans c0_bR
             have x1 : u4.cell? ⟨R, 1, none⟩ = some (.slice a2 B.length c2) := (hW2.cell (p := ⟨R, 1, none⟩) lt_bR).trans c1_bR
             have x2 : u4.cell? ⟨b0, o0 + k * 2 + 1, none⟩ = some (.int .i64 n) := (hW2.cell (p := ⟨b0, o0 + k * 2 + 1, none⟩) en.1).trans en.2
             have nW0 : ¬ R = u4.heap.size := by have := lt_bR; have := hW2.size; omega
             have mW0 : ¬ u4.heap.size = R := fun h => nW0 h.symm
             have lW0 : R < u4.heap.size := by have := lt_bR; have := hW2.size; omega
             have nW1 : ¬ b0 = u4.heap.size := by have := en.1; have := hW2.size; omega
             have mW1 : ¬ u4.heap.size = b0 := fun h => nW1 h.symm
             have lW1 : b0 < u4.heap.size := by have := en.1; have := hW2.size; omega
             have zz := bX.stp hW2
             have z0 := zz.cell0; have z1 := zz.cell1; have z2 := zz.free 0; have z3 := zz.free 1; have z4 := zz.lt)
          | fail)
      all_goals
        clear nV0 mV0 nV1 mV1 oz0 oz1 oz2 oz3 oz4 nO0 mO0 nO1 mO1 x0 x1 x2 nW0 mW0 lW0 nW1 mW1 lW1
        clear c0_bR c1_bR lt_bR c0_bX c1_bX lt_bX
        have o_r5 := r5.off_duo zz
        replace r5 := (Row.aside r5 (p := ⟨g2, 0, none⟩) o_r5 (.slice a5 Q1.length c5)).aside (p := ⟨g2, 1, none⟩) o_r5 (.slice a6 Q2.length c6)
        have o_r6 := r6.off_duo zz
        replace r6 := (Row.aside r6 (p := ⟨g2, 0, none⟩) o_r6 (.slice a5 Q1.length c5)).aside (p := ⟨g2, 1, none⟩) o_r6 (.slice a6 Q2.length c6)
        replace bR := ((bR.stp hW2).other (p := ⟨g2, 0, none⟩) NB_g2_bR (.slice a5 Q1.length c5)).other (p := ⟨g2, 1, none⟩) NB_g2_bR (.slice a6 Q2.length c6)
        replace bZ := ((bZ.stp hW2).other (p := ⟨g2, 0, none⟩) NB_g2_bZ (.slice a5 Q1.length c5)).other (p := ⟨g2, 1, none⟩) NB_g2_bZ (.slice a6 Q2.length c6)
        have o_o := (r1.stp hW2).off_duo zz
        replace r1 := ((r1.stp hW2).aside (p := ⟨g2, 0, none⟩) o_o (.slice a5 Q1.length c5)).aside (p := ⟨g2, 1, none⟩) o_o (.slice a6 Q2.length c6)
        clear o_o
        have o_o := (r2.stp hW2).off_duo zz
        replace r2 := ((r2.stp hW2).aside (p := ⟨g2, 0, none⟩) o_o (.slice a5 Q1.length c5)).aside (p := ⟨g2, 1, none⟩) o_o (.slice a6 Q2.length c6)
        clear o_o
        have o_o := (rp.stp hW2).off_duo zz
        replace rp := ((rp.stp hW2).aside (p := ⟨g2, 0, none⟩) o_o (.slice a5 Q1.length c5)).aside (p := ⟨g2, 1, none⟩) o_o (.slice a6 Q2.length c6)
        clear o_o
        replace hB := bel_set (bel_set (bel_stp hB hW2) (p := ⟨g2, 0, none⟩) BE_g2 (.slice a5 Q1.length c5)) (p := ⟨g2, 1, none⟩) BE_g2 (.slice a6 Q2.length c6)
        replace ek := ((ek.stp hW2).other (p := ⟨g2, 0, none⟩) NB_g2_ek (.slice a5 Q1.length c5)).other (p := ⟨g2, 1, none⟩) NB_g2_ek (.slice a6 Q2.length c6)
        replace en := ((en.stp hW2).other (p := ⟨g2, 0, none⟩) NB_g2_en (.slice a5 Q1.length c5)).other (p := ⟨g2, 1, none⟩) NB_g2_en (.slice a6 Q2.length c6)
        replace bX := (zz.set0 (.slice a5 Q1.length c5)).set1 (.slice a6 Q2.length c6)
        have o_o := (r3.stp hW2).off_duo zz
        replace r3 := ((r3.stp hW2).aside (p := ⟨g2, 0, none⟩) o_o (.slice a5 Q1.length c5)).aside (p := ⟨g2, 1, none⟩) o_o (.slice a6 Q2.length c6)
        clear o_o
        have o_o := (r4.stp hW2).off_duo zz
        replace r4 := ((r4.stp hW2).aside (p := ⟨g2, 0, none⟩) o_o (.slice a5 Q1.length c5)).aside (p := ⟨g2, 1, none⟩) o_o (.slice a6 Q2.length c6)
        clear o_o
        have hZ : X2.heap.size ≤ (World.setCell (World.setCell u4 ⟨g2, 0, none⟩ (.slice a5 Q1.length c5)) ⟨g2, 1, none⟩ (.slice a6 Q2.length c6)).heap.size := by simpa using hW2.size
        clear zz z0 z1 z2 z3 z4 hb2 hW2 o_r5 o_r6
        generalize hX : World.setCell (World.setCell u4 ⟨g2, 0, none⟩ (.slice a5 Q1.length c5)) ⟨g2, 1, none⟩ (.slice a6 Q2.length c6) = X4 at *
        clear hX
        by_cases hF0 : F = 0
        case pos =>
          have HF0 := Lib.hid hF0
          have c0_bR := bR.cell0
          have c1_bR := bR.cell1
          have lt_bR := bR.lt
          have c0_bX := bX.cell0
          have c1_bX := bX.cell1
          have lt_bX := bX.lt
          have fr0 := bR.free 0; have fr1 := bR.free 1
          go_wp2_with fail
          go_roundw
          case rel =>
            have o3 := r5.off_duo bR; have o4 := r6.off_duo bR; have op := rp.off_duo bR
            have hRw : w.heap.size ≤ R := by have := HR.out; omega
            have HS3 := HS2.out
            rw [if_neg HKd.out, if_pos HF0.out] at HS3
            exact ⟨k + 1, Q1, Q2, _, _, _, _, by go_num, by omega, (bR.set0 _).set1 _, (bZ.other (p := ⟨R, 0, none⟩) nRZ _).other (p := ⟨R, 1, none⟩) nRZ _, (Row.aside r5 (p := ⟨R, 0, none⟩) o3 _).aside (p := ⟨R, 1, none⟩) o3 _, (Row.aside r6 (p := ⟨R, 0, none⟩) o4 _).aside (p := ⟨R, 1, none⟩) o4 _, (rp.aside (p := ⟨R, 0, none⟩) op _).aside (p := ⟨R, 1, none⟩) op _, bel_set (bel_set hB (p := ⟨R, 0, none⟩) hRw _) (p := ⟨R, 1, none⟩) hRw _, Lib.hid HS3, Lib.hid (by have := HOK.out; rw [HS3] at this; exact this)⟩
          case measure => simp [intOf]; omega
        have HF0 := Lib.hid hF0
        have c0_bR := bR.cell0
        have c1_bR := bR.cell1
        have lt_bR := bR.lt
        have c0_bX := bX.cell0
        have c1_bX := bX.cell1
        have lt_bX := bX.lt
        go_wp2_with fail
        go_roundw
        case rel =>
          have HS3 := HS2.out
          rw [if_neg HKd.out, if_neg HF0.out] at HS3
          exact ⟨k + 1, A, B, _, _, _, _, by go_num, by omega, bR, bZ, r1, r2, rp, hB, Lib.hid HS3, Lib.hid (by have := HOK.out; rw [HS3] at this; exact this)⟩
        case measure => simp [intOf]; omega
end Go.Proofs.Ytconpdliadhahaa
end

section
namespace Go.Proofs.Ytconpdliadhahaa
open Go.RowKit Go.ChangeShapes Go.WideShapes Go.Sort

set_option maxRecDepth 100000 in
set_option maxHeartbeats 8000000 in
theorem RevokeStays_any (v : Value) (x : List (Int × Int)) (u : Value) (y : List (Int × Int)) (w : World) (h1 : Prs w v x) (h2 : Prs w u y) :
    Calls Try.prog 7 #[v, u] w fun e w' => e = .returned (.bool true) ∧ Below w.heap.size w w' := by
  obtain ⟨av, cv, rfl⟩ := h1.shape
  obtain ⟨au, cu, rfl⟩ := h2.shape
  have hB := Below.refl w.heap.size w
  have p1 := h1; have p2 := h2
  clear h1 h2
  go_enter Try.func7, Try.ntmps7
  go_wp2_with fail
  refine (live27_true _).mono ?_; rintro e w1 ⟨rfl, hb⟩
  replace hB := bel_stp hB hb
  replace p1 := p1.stp hb
  replace p2 := p2.stp hb
  clear hb
  by_cases hn1 : x.length ≤ 60
  case neg =>
    have hn : (60 : Int) < (x.length : Int) := by omega
    go_wp2_with fail
    go_ret
    exact ⟨rfl, hB⟩
  have hn1' : ¬ (60 : Int) < (x.length : Int) := by omega
  by_cases hn2 : y.length ≤ 60
  case neg =>
    have hn : (60 : Int) < (y.length : Int) := by omega
    go_wp2_with fail
    go_ret
    exact ⟨rfl, hB⟩
  have hn2' : ¬ (60 : Int) < (y.length : Int) := by omega
  obtain ⟨A1, hA1⟩ : ∃ P, (Rv.steps ([], []) x).1 = P := ⟨_, rfl⟩
  obtain ⟨A2, hA2⟩ : ∃ P, (Rv.steps ([], []) x).2 = P := ⟨_, rfl⟩
  have hA : Rv.steps ([], []) x = (A1, A2) := by rw [← hA1, ← hA2]
  have oA := Rv.steps_okay x (s := ([], [])) Rv.okay_nil
  rw [hA] at oA
  simp only at oA
  obtain ⟨B1, hB1⟩ : ∃ P, (Rv.steps (A1, A2) y).1 = P := ⟨_, rfl⟩
  obtain ⟨B2, hB2⟩ : ∃ P, (Rv.steps (A1, A2) y).2 = P := ⟨_, rfl⟩
  have hBB : Rv.steps (A1, A2) y = (B1, B2) := by rw [← hB1, ← hB2]
  have oB := Rv.steps_okay y (s := (A1, A2)) oA
  rw [hBB] at oB
  simp only at oB
  obtain ⟨-, -, m3, m4⟩ := Rv.steps_mem x ([], [])
  obtain ⟨t1, t2, t3, t4⟩ := Rv.steps_mem y (A1, A2)
  rw [hA] at m3 m4
  rw [hBB] at t1 t2 t3 t4
  simp only at m3 m4 t1 t2 t3 t4
  have q3 : ∀ z ∈ B1, ¬ Rv.asks x true z → Rv.asks y true z := fun z hz hn => by
    rcases t3 z hz with h | h
    · rcases m3 z h with h | h
      · simp at h
      · exact absurd h hn
    · exact h
  have q4 : ∀ z ∈ B2, ¬ Rv.asks x false z → Rv.asks y false z := fun z hz hn => by
    rcases t4 z hz with h | h
    · rcases m4 z h with h | h
      · simp at h
      · exact absurd h hn
    · exact h
  have T1 := Lib.hid t1; have T2 := Lib.hid t2; have T3 := Lib.hid q3; have T4 := Lib.hid q4; have HA := Lib.hid hA; have HBB := Lib.hid hBB; have OA := Lib.hid oA; have OB := Lib.hid oB
  have lA1 : A1.length ≤ 256 := oA.2
  have lA2 : A2.length ≤ 256 := Rv.gone_le oA
  have lB1 : B1.length ≤ 256 := oB.2
  have lB2 : B2.length ≤ 256 := Rv.gone_le oB
  clear hA1 hA2 hA oA hB1 hB2 hBB oB m3 m4 t1 t2 t3 t4 q3 q4
  go_wp2_with fail
  refine (Done_any _ _ _ [] [] x A1 A2 _ _ _ (Row.nil _ _) (Row.nil _ _) p1 Rv.okay_nil (by omega) HA.out rfl rfl).mono ?_; rintro e w2 ⟨⟨a3, c3, a4, c4, rfl, rA1, rA2⟩, hb⟩
  replace hB := bel_stp hB hb
  replace p1 := p1.stp hb
  replace p2 := p2.stp hb
  clear hb
  have bA := Duo.new w2 24 (.slice a3 A1.length c3) (.slice a4 A2.length c4)
  have c0_bA := bA.cell0
  have c1_bA := bA.cell1
  have lt_bA := bA.lt
  go_wp2_with fail
  refine (Done_any _ _ _ A1 A2 y B1 B2 _ _ _ (rA1.alloc _) (rA2.alloc _) (p2.alloc _) OA.out (by omega) HBB.out rfl rfl).mono ?_; rintro e w3 ⟨⟨a5, c5, a6, c6, rfl, rB1, rB2⟩, hb⟩
  clear c0_bA c1_bA lt_bA
  replace hB := bel_stp (bel_alloc hB _) hb
  replace p1 := (p1.alloc _).stp hb
  replace p2 := (p2.alloc _).stp hb
  replace rA1 := (rA1.alloc _).stp hb
  replace rA2 := (rA2.alloc _).stp hb
  replace bA := bA.stp hb
  clear hb
  have bB := Duo.new w3 24 (.slice a5 B1.length c5) (.slice a6 B2.length c6)
  replace hB := bel_alloc hB (.cells #[.slice a5 B1.length c5, .slice a6 B2.length c6] 24)
  replace p1 := p1.alloc (.cells #[.slice a5 B1.length c5, .slice a6 B2.length c6] 24)
  replace p2 := p2.alloc (.cells #[.slice a5 B1.length c5, .slice a6 B2.length c6] 24)
  replace rA1 := rA1.alloc (.cells #[.slice a5 B1.length c5, .slice a6 B2.length c6] 24)
  replace rA2 := rA2.alloc (.cells #[.slice a5 B1.length c5, .slice a6 B2.length c6] 24)
  replace bA := bA.alloc (.cells #[.slice a5 B1.length c5, .slice a6 B2.length c6] 24)
  replace rB1 := rB1.alloc (.cells #[.slice a5 B1.length c5, .slice a6 B2.length c6] 24)
  replace rB2 := rB2.alloc (.cells #[.slice a5 B1.length c5, .slice a6 B2.length c6] 24)
  obtain ⟨V, hV⟩ : ∃ V, World.alloc w3 (.cells #[.slice a5 B1.length c5, .slice a6 B2.length c6] 24) = V := ⟨_, rfl⟩
  rw [hV] at hB p1 p2 rA1 rA2 bA rB1 rB2 bB
  go_wp2_with fail
  (try rw [hV])
  go_loopw [7] (fun i wr => ∃ k : Nat, k ≤ A1.length ∧ i = .int .i64 k ∧ Below V.heap.size V wr) (fun i _ => A1.length - (intOf i).toNat)
  case atStart => exact ⟨0, Nat.zero_le _, rfl, Below.refl _ _⟩
  case round =>
    clear hV
    obtain ⟨k, hk, rfl, hb⟩ := hrel
    have hK := Lib.hid hb
    replace hB := bel_stp hB hb
    replace p1 := p1.stp hb
    replace p2 := p2.stp hb
    replace rA1 := rA1.stp hb
    replace rA2 := rA2.stp hb
    replace bA := bA.stp hb
    replace rB1 := rB1.stp hb
    replace rB2 := rB2.stp hb
    replace bB := bB.stp hb
    clear hb
    have k0 : (0 : Int) ≤ (k : Int) := by omega
    have e1 : IntKind.i64.wrap ((k : Int) + 1) = (k : Int) + 1 := IntWalk.i64_in _ (by omega)
    by_cases hlt : k < A1.length
    case pos =>
      have H_rA1 := Lib.hid rA1
      have H_rA2 := Lib.hid rA2
      have H_rB1 := Lib.hid rB1
      have H_rB2 := Lib.hid rB2
      have H_p1 := Lib.hid p1
      have H_p2 := Lib.hid p2
      have H_hB := Lib.hid hB
      clear rA1 rA2 rB1 rB2 p1 p2 hB
      have k1 : (k : Int) < (A1.length : Int) := by omega
      obtain ⟨_, _, e', _, _, _, _, h5⟩ := H_rA1.out
      cases e'
      obtain ⟨b0, o0, rfl, hb0, hc0⟩ := h5 (by rintro rfl; simp at hlt)
      have hck := hc0 k hlt
      obtain ⟨z, hx⟩ : ∃ x, A1[k]?.getD 0 = x := ⟨_, rfl⟩
      rw [hx] at hck
      have hm : z ∈ A1 := mem_at hlt hx
      clear hc0 h5 hx
      have hd := decide_eq_true (T1.out z hm)
      clear hm
      have HD := Lib.hid hd; clear hd
      have c0_bA := bA.cell0
      have c1_bA := bA.cell1
      have lt_bA := bA.lt
      have c0_bB := bB.cell0
      have c1_bB := bB.cell1
      have lt_bB := bB.lt
      have q_c0_bA := cell_regrown c0_bA
      have q_c1_bA := cell_regrown c1_bA
      have q_c0_bB := cell_regrown c0_bB
      have q_c1_bB := cell_regrown c1_bB
      have q_hck := cell_regrown hck
      have q1 : ∀ d os, Calls Try.prog 24 #[.slice a5 B1.length c5, .int .i64 z] (grow (redrawn wr d) os) fun e w'' => e = .returned (.bool true) ∧ ∃ p : Regrown, w'' = grow (redrawn wr p.d) p.os := fun d os => Calls.regrown_of (by have bw := below_regrown wr d os; exact (RHas_any _ B1 z _ (H_rB1.out.below bw) (by omega)).mono (fun _ _ h => ⟨by rw [h.1, HD.out], by rw [← h.2]; exact Below.refl _ _⟩))
      go_wp2_with fail
      (try rw [hV])
      refine wp_region_quiet_below (by kernel_rfl) (by kernel_rfl) ?_
      repeat (go_big_quiet_step (first | with_reducible exact q1 _ _))
      refine wpQuiet_nil ?_
      intro _ hw'
      obtain ⟨⟨dq, osq⟩, hw''⟩ := hw'
      subst hw''
      go_wp2_with fail
      go_roundw
      case rel => exact ⟨k + 1, by omega, by go_num, hK.out.trans ((below_regrown wr dq osq).mono hK.out.size)⟩
      case measure => simp [intOf]; omega
    obtain rfl : k = A1.length := by omega
    obtain ⟨V2, rfl⟩ : ∃ W : World, W = wr := ⟨_, rfl⟩
    clear hK hlt k0 e1 hk
    have c0_bA := bA.cell0
    have c1_bA := bA.cell1
    have lt_bA := bA.lt
    have c0_bB := bB.cell0
    have c1_bB := bB.cell1
    have lt_bB := bB.lt
    go_wp2_with fail
    clear c0_bA c1_bA lt_bA c0_bB c1_bB lt_bB
    go_loopw [8] (fun i wr => ∃ k : Nat, k ≤ A2.length ∧ i = .int .i64 k ∧ Below V2.heap.size V2 wr) (fun i _ => A2.length - (intOf i).toNat)
    case atStart => exact ⟨0, Nat.zero_le _, rfl, Below.refl _ _⟩
    case round =>
      obtain ⟨k, hk, rfl, hb⟩ := hrel
      have hK := Lib.hid hb
      replace hB := bel_stp hB hb
      replace p1 := p1.stp hb
      replace p2 := p2.stp hb
      replace rA1 := rA1.stp hb
      replace rA2 := rA2.stp hb
      replace bA := bA.stp hb
      replace rB1 := rB1.stp hb
      replace rB2 := rB2.stp hb
      replace bB := bB.stp hb
      clear hb
      have k0 : (0 : Int) ≤ (k : Int) := by omega
      have e1 : IntKind.i64.wrap ((k : Int) + 1) = (k : Int) + 1 := IntWalk.i64_in _ (by omega)
      by_cases hlt : k < A2.length
      case pos =>
        have H_rA1 := Lib.hid rA1
        have H_rA2 := Lib.hid rA2
        have H_rB1 := Lib.hid rB1
        have H_rB2 := Lib.hid rB2
        have H_p1 := Lib.hid p1
        have H_p2 := Lib.hid p2
        have H_hB := Lib.hid hB
        clear rA1 rA2 rB1 rB2 p1 p2 hB
        have k1 : (k : Int) < (A2.length : Int) := by omega
        obtain ⟨_, _, e', _, _, _, _, h5⟩ := H_rA2.out
        cases e'
        obtain ⟨b0, o0, rfl, hb0, hc0⟩ := h5 (by rintro rfl; simp at hlt)
        have hck := hc0 k hlt
        obtain ⟨z, hx⟩ : ∃ x, A2[k]?.getD 0 = x := ⟨_, rfl⟩
        rw [hx] at hck
        have hm : z ∈ A2 := mem_at hlt hx
        clear hc0 h5 hx
        have hd := decide_eq_true (T2.out z hm)
        clear hm
        have HD := Lib.hid hd; clear hd
        have c0_bA := bA.cell0
        have c1_bA := bA.cell1
        have lt_bA := bA.lt
        have c0_bB := bB.cell0
        have c1_bB := bB.cell1
        have lt_bB := bB.lt
        have q_c0_bA := cell_regrown c0_bA
        have q_c1_bA := cell_regrown c1_bA
        have q_c0_bB := cell_regrown c0_bB
        have q_c1_bB := cell_regrown c1_bB
        have q_hck := cell_regrown hck
        have q1 : ∀ d os, Calls Try.prog 17 #[.agg #[.slice a5 B1.length c5, .slice a6 B2.length c6], .int .i64 z] (grow (redrawn wr d) os) fun e w'' => e = .returned (.bool true) ∧ ∃ p : Regrown, w'' = grow (redrawn wr p.d) p.os := fun d os => Calls.regrown_of (by have bw := below_regrown wr d os; exact (RGone_any _ _ B2 z _ B1.length _ _ rfl (H_rB2.out.below bw) (by omega)).mono (fun _ _ h => ⟨by rw [h.1, HD.out], h.2⟩))
        go_wp2_with fail
        (try rw [hV])
        refine wp_region_quiet_below (by kernel_rfl) (by kernel_rfl) ?_
        repeat (go_big_quiet_step (first | with_reducible exact q1 _ _))
        refine wpQuiet_nil ?_
        intro _ hw'
        obtain ⟨⟨dq, osq⟩, hw''⟩ := hw'
        subst hw''
        go_wp2_with fail
        go_roundw
        case rel => exact ⟨k + 1, by omega, by go_num, hK.out.trans ((below_regrown wr dq osq).mono hK.out.size)⟩
        case measure => simp [intOf]; omega
      obtain rfl : k = A2.length := by omega
      obtain ⟨V3, rfl⟩ : ∃ W : World, W = wr := ⟨_, rfl⟩
      clear hK hlt k0 e1 hk
      have c0_bA := bA.cell0
      have c1_bA := bA.cell1
      have lt_bA := bA.lt
      have c0_bB := bB.cell0
      have c1_bB := bB.cell1
      have lt_bB := bB.lt
      go_wp2_with fail
      clear c0_bA c1_bA lt_bA c0_bB c1_bB lt_bB
      go_loopw [9] (fun i wr => ∃ k : Nat, k ≤ B1.length ∧ i = .int .i64 k ∧ Below V3.heap.size V3 wr) (fun i _ => B1.length - (intOf i).toNat)
      case atStart => exact ⟨0, Nat.zero_le _, rfl, Below.refl _ _⟩
      case round =>
        obtain ⟨k, hk, rfl, hb⟩ := hrel
        have hK := Lib.hid hb
        replace hB := bel_stp hB hb
        replace p1 := p1.stp hb
        replace p2 := p2.stp hb
        replace rA1 := rA1.stp hb
        replace rA2 := rA2.stp hb
        replace bA := bA.stp hb
        replace rB1 := rB1.stp hb
        replace rB2 := rB2.stp hb
        replace bB := bB.stp hb
        clear hb
        have k0 : (0 : Int) ≤ (k : Int) := by omega
        have e1 : IntKind.i64.wrap ((k : Int) + 1) = (k : Int) + 1 := IntWalk.i64_in _ (by omega)
        by_cases hlt : k < B1.length
        case pos =>
          have H_rA1 := Lib.hid rA1
          have H_rA2 := Lib.hid rA2
          have H_rB1 := Lib.hid rB1
          have H_rB2 := Lib.hid rB2
          have H_p1 := Lib.hid p1
          have H_p2 := Lib.hid p2
          have H_hB := Lib.hid hB
          clear rA1 rA2 rB1 rB2 p1 p2 hB
          have k1 : (k : Int) < (B1.length : Int) := by omega
          obtain ⟨_, _, e', _, _, _, _, h5⟩ := H_rB1.out
          cases e'
          obtain ⟨b0, o0, rfl, hb0, hc0⟩ := h5 (by rintro rfl; simp at hlt)
          have hck := hc0 k hlt
          obtain ⟨z, hx⟩ : ∃ x, B1[k]?.getD 0 = x := ⟨_, rfl⟩
          rw [hx] at hck
          have hm : z ∈ B1 := mem_at hlt hx
          clear hc0 h5 hx
          have c0_bB := bB.cell0
          have c1_bB := bB.cell1
          have lt_bB := bB.lt
          have HM := Lib.hid hm
          clear hm
          by_cases hx0 : Rv.asks x true z
          case pos =>
            have HD0 := Lib.hid (decide_eq_true hx0)
            clear hx0
            go_wp2_with fail
            refine (asked0_any _ x z _ H_p1.out (by omega)).mono ?_; rintro e wq ⟨rfl, rfl⟩
            rw [HD0.out]
            by_cases hg : z ∈ B2
            case neg =>
              have HD1 := Lib.hid (decide_eq_false hg)
              clear hg
              have q_c0_bB := cell_regrown c0_bB
              have q_c1_bB := cell_regrown c1_bB
              have q_hck := cell_regrown hck
              have q1 : ∀ d os, Calls Try.prog 17 #[.agg #[.slice (some ⟨b0, o0, none⟩) B1.length c5, .slice a6 B2.length c6], .int .i64 z] (grow (redrawn wr d) os) fun e w'' => e = .returned (.bool false) ∧ ∃ p : Regrown, w'' = grow (redrawn wr p.d) p.os := fun d os => Calls.regrown_of (by have bw := below_regrown wr d os; exact (RGone_any _ _ B2 z _ B1.length _ _ rfl (H_rB2.out.below bw) (by omega)).mono (fun _ _ h => ⟨by rw [h.1, HD1.out], h.2⟩))
              go_wp2_with fail
              (try rw [hV])
              refine wp_region_quiet_below (by kernel_rfl) (by kernel_rfl) ?_
              repeat (go_big_quiet_step (first | with_reducible exact q1 _ _))
              refine wpQuiet_nil ?_
              intro _ hw'
              obtain ⟨⟨dq, osq⟩, hw''⟩ := hw'
              subst hw''
              go_wp2_with fail
              go_roundw
              case rel => exact ⟨k + 1, by omega, by go_num, hK.out.trans ((below_regrown wr dq osq).mono hK.out.size)⟩
              case measure => simp [intOf]; omega
            have HD1 := Lib.hid (decide_eq_true hg)
            have HG := Lib.hid hg
            clear hg
            by_cases hx1 : Rv.asks x false z
            case pos =>
              have HD2 := Lib.hid (decide_eq_true hx1)
              clear hx1
              have q_c0_bB := cell_regrown c0_bB
              have q_c1_bB := cell_regrown c1_bB
              have q_hck := cell_regrown hck
              have q1 : ∀ d os, Calls Try.prog 17 #[.agg #[.slice (some ⟨b0, o0, none⟩) B1.length c5, .slice a6 B2.length c6], .int .i64 z] (grow (redrawn wr d) os) fun e w'' => e = .returned (.bool true) ∧ ∃ p : Regrown, w'' = grow (redrawn wr p.d) p.os := fun d os => Calls.regrown_of (by have bw := below_regrown wr d os; exact (RGone_any _ _ B2 z _ B1.length _ _ rfl (H_rB2.out.below bw) (by omega)).mono (fun _ _ h => ⟨by rw [h.1, HD1.out], h.2⟩))
              have q2 : ∀ d os, Calls Try.prog 27 #[.slice av x.length cv, .int .i64 1, .int .i64 z] (grow (redrawn wr d) os) fun e w'' => e = .returned (.bool true) ∧ ∃ p : Regrown, w'' = grow (redrawn wr p.d) p.os := fun d os => Calls.regrown_of (by have bw := below_regrown wr d os; exact (asked1_any _ x z _ (H_p1.out.below bw) (by omega)).mono (fun _ _ h => ⟨by rw [h.1, HD2.out], by rw [← h.2]; exact Below.refl _ _⟩))
              go_wp2_with fail
              (try rw [hV])
              refine wp_region_quiet_below (by kernel_rfl) (by kernel_rfl) ?_
              repeat (go_big_quiet_step (first | with_reducible exact q1 _ _ | with_reducible exact q2 _ _))
              refine wpQuiet_nil ?_
              intro _ hw'
              obtain ⟨⟨dq, osq⟩, hw''⟩ := hw'
              subst hw''
              go_wp2_with fail
              go_roundw
              case rel => exact ⟨k + 1, by omega, by go_num, hK.out.trans ((below_regrown wr dq osq).mono hK.out.size)⟩
              case measure => simp [intOf]; omega
            have HD2 := Lib.hid (decide_eq_false hx1)
            have HD3 := Lib.hid (decide_eq_true (T4.out z HG.out hx1))
            clear hx1
            have q_c0_bB := cell_regrown c0_bB
            have q_c1_bB := cell_regrown c1_bB
            have q_hck := cell_regrown hck
            have q1 : ∀ d os, Calls Try.prog 17 #[.agg #[.slice (some ⟨b0, o0, none⟩) B1.length c5, .slice a6 B2.length c6], .int .i64 z] (grow (redrawn wr d) os) fun e w'' => e = .returned (.bool true) ∧ ∃ p : Regrown, w'' = grow (redrawn wr p.d) p.os := fun d os => Calls.regrown_of (by have bw := below_regrown wr d os; exact (RGone_any _ _ B2 z _ B1.length _ _ rfl (H_rB2.out.below bw) (by omega)).mono (fun _ _ h => ⟨by rw [h.1, HD1.out], h.2⟩))
            have q2 : ∀ d os, Calls Try.prog 27 #[.slice av x.length cv, .int .i64 1, .int .i64 z] (grow (redrawn wr d) os) fun e w'' => e = .returned (.bool false) ∧ ∃ p : Regrown, w'' = grow (redrawn wr p.d) p.os := fun d os => Calls.regrown_of (by have bw := below_regrown wr d os; exact (asked1_any _ x z _ (H_p1.out.below bw) (by omega)).mono (fun _ _ h => ⟨by rw [h.1, HD2.out], by rw [← h.2]; exact Below.refl _ _⟩))
            have q3 : ∀ d os, Calls Try.prog 27 #[.slice au y.length cu, .int .i64 1, .int .i64 z] (grow (redrawn wr d) os) fun e w'' => e = .returned (.bool true) ∧ ∃ p : Regrown, w'' = grow (redrawn wr p.d) p.os := fun d os => Calls.regrown_of (by have bw := below_regrown wr d os; exact (asked1_any _ y z _ (H_p2.out.below bw) (by omega)).mono (fun _ _ h => ⟨by rw [h.1, HD3.out], by rw [← h.2]; exact Below.refl _ _⟩))
            go_wp2_with fail
            (try rw [hV])
            refine wp_region_quiet_below (by kernel_rfl) (by kernel_rfl) ?_
            repeat (go_big_quiet_step (first | with_reducible exact q1 _ _ | with_reducible exact q2 _ _ | with_reducible exact q3 _ _))
            refine wpQuiet_nil ?_
            intro _ hw'
            obtain ⟨⟨dq, osq⟩, hw''⟩ := hw'
            subst hw''
            go_wp2_with fail
            go_roundw
            case rel => exact ⟨k + 1, by omega, by go_num, hK.out.trans ((below_regrown wr dq osq).mono hK.out.size)⟩
            case measure => simp [intOf]; omega
          have HD0 := Lib.hid (decide_eq_false hx0)
          have HE0 := Lib.hid (decide_eq_true (T3.out z HM.out hx0))
          clear hx0
          go_wp2_with fail
          refine (asked0_any _ x z _ H_p1.out (by omega)).mono ?_; rintro e wq ⟨rfl, rfl⟩
          rw [HD0.out]
          go_wp2_with fail
          refine (asked0_any _ y z _ H_p2.out (by omega)).mono ?_; rintro e wq ⟨rfl, rfl⟩
          rw [HE0.out]
          by_cases hg : z ∈ B2
          case neg =>
            have HD1 := Lib.hid (decide_eq_false hg)
            clear hg
            have q_c0_bB := cell_regrown c0_bB
            have q_c1_bB := cell_regrown c1_bB
            have q_hck := cell_regrown hck
            have q1 : ∀ d os, Calls Try.prog 17 #[.agg #[.slice (some ⟨b0, o0, none⟩) B1.length c5, .slice a6 B2.length c6], .int .i64 z] (grow (redrawn wr d) os) fun e w'' => e = .returned (.bool false) ∧ ∃ p : Regrown, w'' = grow (redrawn wr p.d) p.os := fun d os => Calls.regrown_of (by have bw := below_regrown wr d os; exact (RGone_any _ _ B2 z _ B1.length _ _ rfl (H_rB2.out.below bw) (by omega)).mono (fun _ _ h => ⟨by rw [h.1, HD1.out], h.2⟩))
            go_wp2_with fail
            (try rw [hV])
            refine wp_region_quiet_below (by kernel_rfl) (by kernel_rfl) ?_
            repeat (go_big_quiet_step (first | with_reducible exact q1 _ _))
            refine wpQuiet_nil ?_
            intro _ hw'
            obtain ⟨⟨dq, osq⟩, hw''⟩ := hw'
            subst hw''
            go_wp2_with fail
            go_roundw
            case rel => exact ⟨k + 1, by omega, by go_num, hK.out.trans ((below_regrown wr dq osq).mono hK.out.size)⟩
            case measure => simp [intOf]; omega
          have HD1 := Lib.hid (decide_eq_true hg)
          have HG := Lib.hid hg
          clear hg
          by_cases hx1 : Rv.asks x false z
          case pos =>
            have HD2 := Lib.hid (decide_eq_true hx1)
            clear hx1
            have q_c0_bB := cell_regrown c0_bB
            have q_c1_bB := cell_regrown c1_bB
            have q_hck := cell_regrown hck
            have q1 : ∀ d os, Calls Try.prog 17 #[.agg #[.slice (some ⟨b0, o0, none⟩) B1.length c5, .slice a6 B2.length c6], .int .i64 z] (grow (redrawn wr d) os) fun e w'' => e = .returned (.bool true) ∧ ∃ p : Regrown, w'' = grow (redrawn wr p.d) p.os := fun d os => Calls.regrown_of (by have bw := below_regrown wr d os; exact (RGone_any _ _ B2 z _ B1.length _ _ rfl (H_rB2.out.below bw) (by omega)).mono (fun _ _ h => ⟨by rw [h.1, HD1.out], h.2⟩))
            have q2 : ∀ d os, Calls Try.prog 27 #[.slice av x.length cv, .int .i64 1, .int .i64 z] (grow (redrawn wr d) os) fun e w'' => e = .returned (.bool true) ∧ ∃ p : Regrown, w'' = grow (redrawn wr p.d) p.os := fun d os => Calls.regrown_of (by have bw := below_regrown wr d os; exact (asked1_any _ x z _ (H_p1.out.below bw) (by omega)).mono (fun _ _ h => ⟨by rw [h.1, HD2.out], by rw [← h.2]; exact Below.refl _ _⟩))
            go_wp2_with fail
            (try rw [hV])
            refine wp_region_quiet_below (by kernel_rfl) (by kernel_rfl) ?_
            repeat (go_big_quiet_step (first | with_reducible exact q1 _ _ | with_reducible exact q2 _ _))
            refine wpQuiet_nil ?_
            intro _ hw'
            obtain ⟨⟨dq, osq⟩, hw''⟩ := hw'
            subst hw''
            go_wp2_with fail
            go_roundw
            case rel => exact ⟨k + 1, by omega, by go_num, hK.out.trans ((below_regrown wr dq osq).mono hK.out.size)⟩
            case measure => simp [intOf]; omega
          have HD2 := Lib.hid (decide_eq_false hx1)
          have HD3 := Lib.hid (decide_eq_true (T4.out z HG.out hx1))
          clear hx1
          have q_c0_bB := cell_regrown c0_bB
          have q_c1_bB := cell_regrown c1_bB
          have q_hck := cell_regrown hck
          have q1 : ∀ d os, Calls Try.prog 17 #[.agg #[.slice (some ⟨b0, o0, none⟩) B1.length c5, .slice a6 B2.length c6], .int .i64 z] (grow (redrawn wr d) os) fun e w'' => e = .returned (.bool true) ∧ ∃ p : Regrown, w'' = grow (redrawn wr p.d) p.os := fun d os => Calls.regrown_of (by have bw := below_regrown wr d os; exact (RGone_any _ _ B2 z _ B1.length _ _ rfl (H_rB2.out.below bw) (by omega)).mono (fun _ _ h => ⟨by rw [h.1, HD1.out], h.2⟩))
          have q2 : ∀ d os, Calls Try.prog 27 #[.slice av x.length cv, .int .i64 1, .int .i64 z] (grow (redrawn wr d) os) fun e w'' => e = .returned (.bool false) ∧ ∃ p : Regrown, w'' = grow (redrawn wr p.d) p.os := fun d os => Calls.regrown_of (by have bw := below_regrown wr d os; exact (asked1_any _ x z _ (H_p1.out.below bw) (by omega)).mono (fun _ _ h => ⟨by rw [h.1, HD2.out], by rw [← h.2]; exact Below.refl _ _⟩))
          have q3 : ∀ d os, Calls Try.prog 27 #[.slice au y.length cu, .int .i64 1, .int .i64 z] (grow (redrawn wr d) os) fun e w'' => e = .returned (.bool true) ∧ ∃ p : Regrown, w'' = grow (redrawn wr p.d) p.os := fun d os => Calls.regrown_of (by have bw := below_regrown wr d os; exact (asked1_any _ y z _ (H_p2.out.below bw) (by omega)).mono (fun _ _ h => ⟨by rw [h.1, HD3.out], by rw [← h.2]; exact Below.refl _ _⟩))
          go_wp2_with fail
          (try rw [hV])
          refine wp_region_quiet_below (by kernel_rfl) (by kernel_rfl) ?_
          repeat (go_big_quiet_step (first | with_reducible exact q1 _ _ | with_reducible exact q2 _ _ | with_reducible exact q3 _ _))
          refine wpQuiet_nil ?_
          intro _ hw'
          obtain ⟨⟨dq, osq⟩, hw''⟩ := hw'
          subst hw''
          go_wp2_with fail
          go_roundw
          case rel => exact ⟨k + 1, by omega, by go_num, hK.out.trans ((below_regrown wr dq osq).mono hK.out.size)⟩
          case measure => simp [intOf]; omega
        obtain rfl : k = B1.length := by omega
        obtain ⟨V4, rfl⟩ : ∃ W : World, W = wr := ⟨_, rfl⟩
        clear hK hlt k0 e1 hk
        have c0_bB := bB.cell0
        have c1_bB := bB.cell1
        have lt_bB := bB.lt
        go_wp2_with fail
        refine (RCheck_any _ _ B1 B2 _ rB1 rB2 (by omega) (by omega)).mono ?_; rintro e w4 ⟨rfl, hb⟩
        clear c0_bB c1_bB lt_bB
        replace hB := bel_stp hB hb
        replace p1 := p1.stp hb
        replace p2 := p2.stp hb
        replace rA1 := rA1.stp hb
        replace rA2 := rA2.stp hb
        replace bA := bA.stp hb
        replace rB1 := rB1.stp hb
        replace rB2 := rB2.stp hb
        replace bB := bB.stp hb
        clear hb
        rw [Rv.chk_okay OB.out]
        go_wp2_with fail
        go_ret
        exact ⟨rfl, hB⟩
end Go.Proofs.Ytconpdliadhahaa
end
