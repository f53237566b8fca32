/-
  The texts Yr Yv in one. (Merged by wip/lay12m.py.)
-/
import Derived.BigQuiet
import Derived.Deep.QuietTactic
import Derived.Lib.QuietBelow

section
namespace Go.Proofs.YtlaidjgdipacgaaGreatDoor
open Go.RowKit

namespace Rely
variable {P : Program} {l : List Oper} {C : World → Prop} {G : World → World → Prop} {R : Nat → Value → World → Prop} {a0 : Act}

def valR (l : List Oper) (ρ : Operand → Value) (k : Nat) : Value :=
  match l[k]? with
  | some o => (match o.dst with | some d => ρ (.tmp d) | none => undef)
  | none => undef
abbrev valAt (l : List Oper) (a : Act) (k : Nat) : Value := valR l a.eval k
def stored (o : Oper) (v : Value) : Value := match o.dst with | some _ => v | none => undef

structure Inv (l : List Oper) (C : World → Prop) (R : Nat → Value → World → Prop) (a0 : Act) (listed : Array Bool) (a : Act) (w : World) : Prop where
  cls : C w
  lsize : listed.size = l.length
  size : a.tmps.size = a0.tmps.size
  defers : a.defers = a0.defers
  old : ∀ s, (∀ o ∈ l, o.dst ≠ some s) → a.tmps[s]? = a0.tmps[s]?
  new : ∀ k, k < l.length → listed.getD k false = true → R k (valAt l a k) w

/-- What is to be shown of one operation. -/
def Ob (P : Program) (l : List Oper) (C : World → Prop) (G : World → World → Prop) (R : Nat → Value → World → Prop) (a0 : Act) (k : Nat) (o : Oper) : Prop :=
  ∀ (a : Act) (w : World), C w → (∀ s, (l.all fun o' => !(o'.dst == some s)) = true → a.eval (.tmp s) = a0.eval (.tmp s)) →
    (∀ j, (o.after.toList.any fun e => Region.binds .any e && e.on == j) = true → j < l.length → R j (valAt l a j) w) →
    (Region.wanted o (yielded l.toArray a.tmps) = true → ∀ (K : Act → World → Prop) (Q : Exit → Act → World → Prop), (∀ v w', C w' → G w w' → R k (stored o v) w' → K (a.put o.dst v) w') → o.wp P a w K Q) ∧
    (Region.wanted o (yielded l.toArray a.tmps) = false → G w w ∧ R k undef w)
def AllOb (P : Program) (l : List Oper) (C : World → Prop) (G : World → World → Prop) (R : Nat → Value → World → Prop) (a0 : Act) : Nat → List Oper → Prop
  | _, [] => True
  | k, o :: r => Ob P l C G R a0 k o ∧ AllOb P l C G R a0 (k + 1) r
def AllR (R : Nat → Value → World → Prop) (vs : Nat → Value) (w : World) : Nat → List Oper → Prop
  | _, [] => True
  | k, _ :: r => R k (vs k) w ∧ AllR R vs w (k + 1) r
def putAll : List Oper → Nat → (Nat → Value) → Act → Act
  | [], _, _, a => a
  | o :: r, k, vs, a => putAll r (k + 1) vs (a.put o.dst (vs k))

theorem allOb_at : ∀ {r : List Oper} {k : Nat}, AllOb P l C G R a0 k r → ∀ {j : Nat} {o : Oper}, r[j]? = some o → Ob P l C G R a0 (k + j) o
  | [], _, _, j, o, h => by simp at h
  | x :: r, k, hr, 0, o, h => by simp at h; subst h; exact hr.1
  | x :: r, k, hr, j + 1, o, h => by
    have := allOb_at hr.2 (j := j) (o := o) (by simpa using h)
    rwa [show k + (j + 1) = k + 1 + j by omega]
theorem allR_of {vs : Nat → Value} {w : World} : ∀ {r : List Oper} {k : Nat}, (∀ j, j < r.length → R (k + j) (vs (k + j)) w) → AllR R vs w k r
  | [], _, _ => trivial
  | x :: r, k, h => ⟨h 0 (by simp), allR_of fun j hj => by
      have := h (j + 1) (by simp; omega)
      rwa [show k + (j + 1) = k + 1 + j by omega] at this⟩
theorem put_size (a : Act) (d : Option Tmp) (v : Value) : (a.put d v).tmps.size = a.tmps.size := by cases d <;> simp [Act.put]
theorem put_defers (a : Act) (d : Option Tmp) (v : Value) : (a.put d v).defers = a.defers := by cases d <;> rfl
theorem put_ne (a : Act) (d : Option Tmp) (v : Value) (s : Nat) (h : d ≠ some s) : (a.put d v).tmps[s]? = a.tmps[s]? := by
  cases d with
  | none => rfl
  | some d => simp only [Act.put]; rw [Array.getElem?_setIfInBounds_ne (fun e => h (by rw [e]))]
theorem put_self (a : Act) (d : Tmp) (v : Value) (h : d < a.tmps.size) : (a.put (some d) v).tmps[d]? = some v := by
  simp [Act.put, h]
theorem eval_getD (a : Act) (s : Nat) : a.eval (.tmp s) = (a.tmps[s]?).getD undef := by simp [Act.eval]
theorem putAll_size : ∀ (r : List Oper) (k : Nat) (vs : Nat → Value) (a : Act), (putAll r k vs a).tmps.size = a.tmps.size
  | [], _, _, _ => rfl
  | _ :: r, k, vs, _ => (putAll_size r (k + 1) vs _).trans (put_size _ _ _)
theorem putAll_defers : ∀ (r : List Oper) (k : Nat) (vs : Nat → Value) (a : Act), (putAll r k vs a).defers = a.defers
  | [], _, _, _ => rfl
  | _ :: r, k, vs, _ => (putAll_defers r (k + 1) vs _).trans (put_defers _ _ _)
theorem putAll_old (s : Nat) : ∀ (r : List Oper) (k : Nat) (vs : Nat → Value) (a : Act), (∀ o ∈ r, o.dst ≠ some s) → (putAll r k vs a).tmps[s]? = a.tmps[s]?
  | [], _, _, _, _ => rfl
  | o :: r, k, vs, a, h => (putAll_old s r (k + 1) vs _ fun o' ho' => h o' (by simp [ho'])).trans (put_ne _ _ _ _ (h o (by simp)))
theorem putAll_new {d : Nat} : ∀ {r : List Oper} {k : Nat} {vs : Nat → Value} {a : Act} {j : Nat} {o : Oper}, (r.filterMap (·.dst)).Nodup → d < a.tmps.size → r[j]? = some o → o.dst = some d → (putAll r k vs a).tmps[d]? = some (vs (k + j))
  | [], _, _, _, _, _, _, _, h, _ => by simp at h
  | x :: r, k, vs, a, 0, o, hn, hd, h, ho => by
    simp at h; subst h
    rw [List.filterMap_cons_some ho, List.nodup_cons] at hn
    show (putAll r (k + 1) vs (a.put x.dst (vs k))).tmps[d]? = some (vs k)
    rw [putAll_old d r _ _ _ (fun o' ho' e => hn.1 (List.mem_filterMap.2 ⟨o', ho', e⟩)), ho, put_self _ _ _ hd]
  | x :: r, k, vs, a, j + 1, o, hn, hd, h, ho => by
    have hn' : (r.filterMap (·.dst)).Nodup := by
      cases hx : x.dst with
      | none => rwa [List.filterMap_cons_none hx] at hn
      | some y => rw [List.filterMap_cons_some hx] at hn; exact (List.nodup_cons.1 hn).2
    have := putAll_new (k := k + 1) (vs := vs) (a := a.put x.dst (vs k)) (j := j) (o := o) hn' (by rw [put_size]; exact hd) (by simpa using h) ho
    rw [show k + (j + 1) = k + 1 + j by omega]
    exact this
/-- The frame at the end, written as the text's order would write it. -/
theorem frame_eq {a : Act} (hnd : (l.filterMap (·.dst)).Nodup) (hsz : ∀ d ∈ l.filterMap (·.dst), d < a0.tmps.size) (hs : a.tmps.size = a0.tmps.size) (hdf : a.defers = a0.defers)
    (hold : ∀ s, (∀ o ∈ l, o.dst ≠ some s) → a.tmps[s]? = a0.tmps[s]?) : a = putAll l 0 (valAt l a) a0 := by
  have ht : a.tmps = (putAll l 0 (valAt l a) a0).tmps := by
    apply Array.ext_getElem?
    intro s
    by_cases h : ∀ o ∈ l, o.dst ≠ some s
    · rw [hold s h, putAll_old s l _ _ _ h]
    · simp only [Classical.not_forall, Classical.not_not] at h
      obtain ⟨o, ho, hd⟩ := h
      obtain ⟨j, hj⟩ := List.mem_iff_getElem?.1 ho
      have hlt := hsz s (List.mem_filterMap.2 ⟨o, ho, hd⟩)
      rw [putAll_new hnd hlt hj hd, Nat.zero_add]
      unfold valAt valR
      rw [hj]; simp only [hd, eval_getD]
      rw [Array.getElem?_eq_getElem (by omega)]; rfl
  have hd : a.defers = (putAll l 0 (valAt l a) a0).defers := hdf.trans (putAll_defers _ _ _ _).symm
  cases a; cases hp : putAll l 0 _ a0
  rw [hp] at ht hd
  cases ht; cases hd
  rfl
theorem countP_less {f g : Nat → Bool} (h : ∀ x, g x = true → f x = true) {i : Nat} (hf : f i = true) (hg : g i = false) : ∀ {L : List Nat}, i ∈ L → L.countP g + 1 ≤ L.countP f
  | [], hi => by cases hi
  | x :: L, hi => by
    have hle : L.countP g ≤ L.countP f := List.countP_mono_left fun x _ => h x
    rw [List.countP_cons, List.countP_cons]
    rcases List.mem_cons.1 hi with rfl | hi
    · simp [hf, hg]; exact hle
    · have := countP_less h hf hg hi
      by_cases hx : g x = true
      · simp [hx, h x hx]; omega
      · simp [hx]; omega
/-- Where nothing is ready all have come up. -/
theorem all_listed {listed : Array Bool} (hls : listed.size = l.length) (hac : ∀ k o, l[k]? = some o → ∀ e ∈ o.after, Region.binds .any e = true → e.on < k) (h : Region.ready .any l.toArray listed = []) : ∀ k, k < l.length → listed.getD k false = true := by
  intro k
  induction k using Nat.strongRecOn with
  | _ k ih =>
    intro hk
    apply Classical.byContradiction
    intro hn
    have : k ∈ Region.ready .any l.toArray listed := by
      refine mem_ready.2 ⟨?_, l[k], by simp [hk], fun e he hb => ?_⟩
      · simp [hls, hk] at hn ⊢; exact hn
      · have := hac k l[k] (by simp [hk]) e he hb
        exact ih _ this (by omega)
    rw [h] at this; cases this

theorem wpAny_of_inv {Q : Exit → Act → World → Prop} (hnd : (l.filterMap (·.dst)).Nodup) (hsz : ∀ d ∈ l.filterMap (·.dst), d < a0.tmps.size)
    (hac : ∀ k o, l[k]? = some o → ∀ e ∈ o.after, Region.binds .any e = true → e.on < k)
    (hst : ∀ k v w w', C w → C w' → G w w' → R k v w → R k v w') (hob : AllOb P l C G R a0 0 l)
    (hQ : ∀ (vs : Nat → Value) (w' : World), C w' → AllR R vs w' 0 l → Q .normal (putAll l 0 vs a0) w') :
    ∀ (fuel : Nat) (listed : Array Bool) (a : Act) (w : World), (List.range l.length).countP (fun i => !listed.getD i true) ≤ fuel → Inv l C R a0 listed a w → wpAny P .any l.toArray Q fuel listed a w := by
  have fin : ∀ (listed : Array Bool) (a : Act) (w : World), Inv l C R a0 listed a w → (∀ k, k < l.length → listed.getD k false = true) → Q .normal a w := by
    intro listed a w hi hall
    have := hQ (valAt l a) w hi.cls (allR_of fun j hj => by rw [Nat.zero_add]; exact hi.new j hj (hall j hj))
    rwa [← frame_eq hnd hsz hi.size hi.defers hi.old] at this
  intro fuel
  induction fuel with
  | zero =>
    intro listed a w hc hi
    have hr : Region.ready .any l.toArray listed = [] := by
      apply List.eq_nil_iff_forall_not_mem.2
      intro j hj
      obtain ⟨h1, o, ho, -⟩ := mem_ready.1 hj
      have hlt : j < l.length := by
        have := (Array.getElem?_eq_some_iff.1 ho).1; simpa using this
      have : (List.range l.length).countP (fun i => !listed.getD i true) = 0 := Nat.le_zero.1 hc
      have := List.countP_eq_zero.1 this j (List.mem_range.2 hlt)
      simp [h1] at this
    exact ⟨hr, fin listed a w hi (all_listed hi.lsize hac hr)⟩
  | succ fuel ih =>
    intro listed a w hc hi
    refine ⟨fun hr => fin listed a w hi (all_listed hi.lsize hac hr), fun i hri => ?_⟩
    obtain ⟨h1, o, ho, hall⟩ := mem_ready.1 hri
    have hol : l[i]? = some o := by simpa using ho
    have hlt : i < l.length := (List.getElem?_eq_some_iff.1 hol).1
    have hO := allOb_at hob hol
    rw [Nat.zero_add] at hO
    have hO' := hO a w hi.cls (fun s hs => by rw [eval_getD, eval_getD, hi.old s (fun o' ho' e => by have := List.all_eq_true.1 hs o' ho'; simp [e] at this)]) (fun j hj hl => by
      obtain ⟨e, hem, he⟩ := List.any_eq_true.1 hj
      simp only [Bool.and_eq_true, beq_iff_eq] at he
      exact he.2 ▸ hi.new e.on (by rw [he.2]; exact hl) (hall _ (Array.mem_def.2 hem) he.1))
    have hcount : (List.range l.length).countP (fun j => !(listed.setIfInBounds i true).getD j true) ≤ fuel := by
      have := countP_less (f := fun j => !listed.getD j true) (g := fun j => !(listed.setIfInBounds i true).getD j true) (fun x hx => by
        by_cases e : i = x
        · subst e; simp [hi.lsize, hlt] at hx
        · simp [Array.getElem?_setIfInBounds_ne e] at hx ⊢; exact hx) (i := i) (by simp [h1]) (by simp [hi.lsize, hlt]) (List.mem_range.2 hlt)
      omega
    have step : ∀ v w', C w' → G w w' → R i (stored o v) w' → wpAny P .any l.toArray Q fuel (listed.setIfInBounds i true) (a.put o.dst v) w' := by
      intro v w' hC hG hR
      refine ih _ _ _ hcount ⟨hC, by simp [hi.lsize], by rw [put_size, hi.size], by rw [put_defers, hi.defers], fun s hs => ?_, fun k hk hkl => ?_⟩
      · rw [put_ne _ _ _ _ (hs o (List.mem_of_getElem? hol)), hi.old s hs]
      · by_cases e : i = k
        · subst e
          have : valAt l (a.put o.dst v) i = stored o v := by
            unfold valAt valR stored
            rw [hol]
            cases hd : o.dst with
            | none => simp [hd]
            | some d =>
              simp only [hd]
              rw [eval_getD, put_self _ _ _ (by rw [hi.size]; exact hsz d (List.mem_filterMap.2 ⟨o, List.mem_of_getElem? hol, hd⟩))]; rfl
          rw [this]; exact hR
        · have hkl' : listed.getD k false = true := by
            simp [Array.getElem?_setIfInBounds_ne e] at hkl ⊢; exact hkl
          have : valAt l (a.put o.dst v) k = valAt l a k := by
            unfold valAt valR
            cases hk2 : l[k]? with
            | none => rfl
            | some o2 =>
              cases hd : o2.dst with
              | none => simp [hd]
              | some d =>
                simp only [hd]
                rw [eval_getD, eval_getD, put_ne]
                intro e2
                exact e (nodup_at hnd hol hk2 e2 hd)
          rw [this]
          exact hst k _ w w' hi.cls hC hG (hi.new k hk hkl')
    unfold wpOp
    simp only [ho]
    by_cases hw : Region.wanted o (yielded l.toArray a.tmps) = true
    · rw [if_pos hw]
      exact .inl (hO'.1 hw _ _ fun v w' hC hG hR => step v w' hC hG hR)
    · rw [if_neg hw]
      have hx := hO'.2 (by simpa using hw)
      exact step undef w hi.cls hx.1 (by unfold stored; cases o.dst <;> exact hx.2)
where
  nodup_at {l : List Oper} {i k : Nat} {o o2 : Oper} {d : Tmp} (hnd : (l.filterMap (·.dst)).Nodup) (hi : l[i]? = some o) (hk : l[k]? = some o2) (h1 : o.dst = some d) (h2 : o2.dst = some d) : i = k := by
    induction l generalizing i k with
    | nil => simp at hi
    | cons x r ih =>
      have hn' : (r.filterMap (·.dst)).Nodup := by
        cases hx : x.dst with
        | none => rwa [List.filterMap_cons_none hx] at hnd
        | some y => rw [List.filterMap_cons_some hx] at hnd; exact (List.nodup_cons.1 hnd).2
      cases i with
      | zero =>
        cases k with
        | zero => rfl
        | succ k =>
          simp at hi hk; subst hi
          rw [List.filterMap_cons_some h1, List.nodup_cons] at hnd
          exact absurd (List.mem_filterMap.2 ⟨o2, List.mem_of_getElem? hk, h2⟩) hnd.1
      | succ i =>
        cases k with
        | zero =>
          simp at hi hk; subst hk
          rw [List.filterMap_cons_some h2, List.nodup_cons] at hnd
          exact absurd (List.mem_filterMap.2 ⟨o, List.mem_of_getElem? hi, h1⟩) hnd.1
        | succ k =>
          have h9 := ih hn' (by simpa using hi) (by simpa using hk)
          omega

/-- **A region that draws its order**: if every operation, in whatever order, yields what its predicate says and keeps what the others' say, then the region ends in all of them. -/
theorem wp_region_rely {id : Nat} {Q : Exit → Act → World → Prop} {w : World} (C : World → Prop) (G : World → World → Prop) (R : Nat → Value → World → Prop) (hm : P.follows .mixedOrders = true)
    (hnd : (l.filterMap (·.dst)).Nodup) (hsz : (l.filterMap (·.dst)).all (fun d => decide (d < a0.tmps.size)) = true)
    (hac : (l.zipIdx.all fun p => p.1.after.all fun e => !Region.binds .any e || decide (e.on < p.2)) = true)
    (hC : C { w with drawn := w.drawn + 1 }) (hst : ∀ k v w w', C w → C w' → G w w' → R k v w → R k v w') (hob : AllOb P l C G R a0 0 l)
    (hQ : ∀ (vs : Nat → Value) (w' : World), C w' → AllR R vs w' 0 l → Q .normal (putAll l 0 vs a0) w') : (Code.region id l.toArray true).wp P Q a0 w := by
  refine wp_region_any hm (wpAny_of_inv hnd (fun d hd => by simpa using List.all_eq_true.1 hsz d hd) (fun k o hk e he hb => ?_) hst hob hQ _ _ _ _ ?_ ⟨hC, by simp, rfl, rfl, fun _ _ => rfl, fun k hk hl => ?_⟩)
  · have h1 := List.all_eq_true.1 hac (o, k) (List.mem_zipIdx_iff_getElem?.2 (by simpa using hk))
    have h2 := Array.all_eq_true_iff_forall_mem.1 h1 e he
    simpa [hb] using h2
  · have := List.countP_le_length (p := fun i => !(Array.replicate l.toArray.size false).getD i true) (l := List.range l.length)
    simpa using this
  · simp [hk] at hl
theorem allR_at {vs : Nat → Value} {w : World} : ∀ {r : List Oper} {k : Nat}, AllR R vs w k r → ∀ j, j < r.length → R (k + j) (vs (k + j)) w
  | [], _, _, _, h => by cases h
  | _ :: _, _, hr, 0, _ => hr.1
  | _ :: r, k, hr, j + 1, h => by
    have := allR_at hr.2 j (by simpa using h)
    rwa [show k + (j + 1) = k + 1 + j by omega]
theorem allOb_cons {k : Nat} {o : Oper} {r : List Oper} (h : Ob P l C G R a0 k o) (hr : AllOb P l C G R a0 (k + 1) r) : AllOb P l C G R a0 k (o :: r) := ⟨h, hr⟩
theorem allOb_nil {k : Nat} : AllOb P l C G R a0 k [] := trivial
theorem yielded_of {a : Act} {j : Nat} {b : Bool} (h : valAt l a j = .bool b) : yielded l.toArray a.tmps j = some b := by
  unfold valAt valR at h
  unfold yielded
  cases hj : l[j]? with
  | none => rw [hj] at h; cases h
  | some o =>
    rw [hj] at h
    simp only at h
    cases hd : o.dst with
    | none => rw [hd] at h; cases h
    | some d =>
      rw [hd] at h
      simp only [eval_getD] at h
      cases ht : a.tmps[d]? with
      | none => rw [ht] at h; cases h
      | some v =>
        rw [ht] at h
        simp at h; subst h
        simp [hj, hd, ht]
abbrev Runs (P : Program) (l : List Oper) (C : World → Prop) (G : World → World → Prop) (R : Nat → Value → World → Prop) (a0 : Act) (k : Nat) (o : Oper) : Prop :=
  ∀ (a : Act) (ρ : Operand → Value), (∀ v, ρ (.const v) = v) → (∀ g, ρ (.global g) = .pointer (some ⟨g, 0, none⟩)) → (∀ f, ρ (.func f) = .func (.func f) #[] #[]) →
    ∀ (w : World), C w → (∀ s, (l.all fun o' => !(o'.dst == some s)) = true → ρ (.tmp s) = a0.eval (.tmp s)) →
    (∀ j, (o.after.toList.any fun e => Region.binds .any e && e.on == j) = true → j < l.length → R j (valR l ρ j) w) →
    ∀ (K : Act → World → Prop) (Q : Exit → Act → World → Prop), (∀ v w', C w' → G w w' → R k (stored o v) w' → K (a.put o.dst v) w') → o.upon P a K Q ((execOp ρ o).run P w)
theorem upon_move {o : Oper} {a : Act} {ρ : Operand → Value} {w : World} {K : Act → World → Prop} {Q : Exit → Act → World → Prop} (x : Operand) (h : o.op = .move x) (hk : K (a.put o.dst (ρ x)) w) : o.upon P a K Q ((execOp ρ o).run P w) := by
  simp [execOp, h, Oper.upon]; exact hk
theorem upon_assign {o : Oper} {a : Act} {ρ : Operand → Value} {w : World} {K : Act → World → Prop} {Q : Exit → Act → World → Prop} (x : Operand) (h : o.op = .assign x) (hk : K (a.put o.dst (ρ x)) w) : o.upon P a K Q ((execOp ρ o).run P w) := by
  simp [execOp, h, Oper.upon]; exact hk
theorem ob_plain {k : Nat} {o : Oper} (hg : o.guard = none) (h : Runs P l C G R a0 k o) : Ob P l C G R a0 k o := fun a w hC hold hdep =>
  ⟨fun _ K Q hK => h a a.eval (fun _ => rfl) (fun _ => rfl) (fun _ => rfl) w hC hold hdep K Q hK, fun hw => by unfold Region.wanted at hw; rw [hg] at hw; cases hw⟩
theorem ob_want {k : Nat} {o : Oper} (j : Nat) (b : Bool) (hg : o.guard = some (j, b)) (hd : (o.after.toList.any fun e => Region.binds .any e && e.on == j) = true) (hj : j < l.length) (hR : ∀ v w, R j v w → v = .bool b) (h : Runs P l C G R a0 k o) : Ob P l C G R a0 k o := fun a w hC hold hdep =>
  ⟨fun _ K Q hK => h a a.eval (fun _ => rfl) (fun _ => rfl) (fun _ => rfl) w hC hold hdep K Q hK, fun hw => by
    unfold Region.wanted at hw; rw [hg] at hw
    have := yielded_of (hR _ _ (hdep j hd hj))
    simp [this] at hw⟩
theorem ob_skip {k : Nat} {o : Oper} (j : Nat) (b : Bool) (hg : o.guard = some (j, b)) (hd : (o.after.toList.any fun e => Region.binds .any e && e.on == j) = true) (hj : j < l.length) (hR : ∀ v w, R j v w → v = .bool (!b)) (hG : ∀ w, G w w) (hu : ∀ w, R k undef w) : Ob P l C G R a0 k o := fun a w hC hold hdep =>
  ⟨fun hw => by
    unfold Region.wanted at hw; rw [hg] at hw
    have := yielded_of (hR _ _ (hdep j hd hj))
    simp [this] at hw, fun _ => ⟨hG w, hu w⟩⟩
end Rely
end Go.Proofs.YtlaidjgdipacgaaGreatDoor
end

section
namespace Go.Proofs.YtlaidjgdipacgaaGreatDoor
open Go.RowKit

namespace LastOp
variable {P : Program} {l : List Oper} {Q : Exit → Act → World → Prop}
abbrev Dep (o : Oper) (j : Nat) : Prop := (o.after.toList.any fun e => Region.binds .any e && e.on == j) = true
/-- What is owed behind the region without its last operation. -/
def Then (P : Program) (ops : Array Oper) (oz : Oper) (Q : Exit → Act → World → Prop) : Exit → Act → World → Prop
  | .normal, a, w => wpList P ops Q [oz] a w
  | e, a, w => Q e a w
theorem wpAny_end {listed : Array Bool} {a : Act} {w : World} (hl : ∀ k, k < l.length → listed.getD k false = true) (hs : listed.size = l.length) (hQ : Q .normal a w) : ∀ fuel, wpAny P .any l.toArray Q fuel listed a w := by
  have hr : Region.ready .any l.toArray listed = [] := by
    apply List.eq_nil_iff_forall_not_mem.2
    intro j hj
    obtain ⟨h1, o, ho, -⟩ := mem_ready.1 hj
    have hlt : j < l.length := by have := (Array.getElem?_eq_some_iff.1 ho).1; simpa using this
    have h2 := hl j hlt
    simp [hs, hlt] at h1 h2
    rw [h1] at h2; cases h2
  intro fuel
  cases fuel with
  | zero => exact ⟨hr, hQ⟩
  | succ f => exact ⟨fun _ => hQ, fun i hi => by rw [hr] at hi; cases hi⟩
theorem letsOut {oz : Oper} (h : LetsOut (Then P l.toArray oz Q)) : LetsOut Q := by
  obtain ⟨a, w, h⟩ := h
  exact ⟨a, w, h⟩
theorem wp_then {oz o : Oper} {a : Act} {w : World} {K : Act → World → Prop} (h : o.wp P a w K (Then P l.toArray oz Q)) : o.wp P a w K Q := by
  unfold Oper.wp at *
  generalize (execOp a.eval o).run P w = r at *
  cases r with
  | ok n w' =>
    cases n <;> simp only [Oper.upon] at h ⊢ <;>
      first
        | exact h
        | exact Calls.mono h (fun e w'' he => by cases e <;> first | exact he | exact letsOut he)
  | halt x w' => cases x <;> simp only [Oper.upon] at h ⊢ <;> exact h

theorem wpAny_last {z : Nat} {oz : Oper} (hz : l.length = z + 1) (hzo : l[z]? = some oz) (hg : ∀ o ∈ l, o.guard = none)
    (hac : ∀ k o, l[k]? = some o → ∀ e ∈ o.after, Region.binds .any e = true → e.on < k)
    (hlate : ∀ j, j < z → ∃ k o, j < k ∧ l[k]? = some o ∧ Dep o j) :
    ∀ (fuel : Nat) (listed ls : Array Bool) (a : Act) (w : World), listed.size = z + 1 → ls.size = z → (∀ j, j < z → ls.getD j false = listed.getD j false) → listed.getD z false = false →
      (∀ k o, l[k]? = some o → listed.getD k false = true → ∀ j, Dep o j → listed.getD j false = true) →
      wpAny P .any (l.take z).toArray (Then P l.toArray oz Q) fuel ls a w → wpAny P .any l.toArray Q (fuel + 1) listed a w := by
  have hzl : z < l.length := by omega
  have htl : (l.take z).length = z := by simp; omega
  have hgt : ∀ j, j < z → (l.take z)[j]? = l[j]? := fun j hj => by rw [List.getElem?_take, if_pos hj]
  have hacS : ∀ k o, (l.take z)[k]? = some o → ∀ e ∈ o.after, Region.binds .any e = true → e.on < k := fun k o hk => by
    have hkz : k < z := by have := (List.getElem?_eq_some_iff.1 hk).1; omega
    rw [hgt k hkz] at hk
    exact hac k o hk
  -- the last operation alone is left
  have fin : ∀ (listed : Array Bool) (a : Act) (w : World), listed.size = z + 1 → (∀ j, j < z → listed.getD j false = true) → Then P l.toArray oz Q .normal a w → ∀ fuel, wpOp P l.toArray Q z (wpAny P .any l.toArray Q fuel (listed.setIfInBounds z true)) a w := by
    intro listed a w hs hall h fuel
    unfold wpOp
    have e : l.toArray[z]? = some oz := by simpa using hzo
    simp only [e]
    have hw : Region.wanted oz (yielded l.toArray a.tmps) = true := by unfold Region.wanted; rw [hg oz (List.mem_of_getElem? hzo)]
    rw [if_pos hw]
    have h : wpList P l.toArray Q [oz] a w := h
    unfold wpList at h
    rw [if_pos hw] at h
    refine h.imp (fun h => Oper.wp_mono (fun a' w' hQ => wpAny_end (fun k hk => ?_) (by simp [hs, hz]) hQ _) h) (fun h => h)
    by_cases e : z = k
    · subst e; simp [hs]
    · have := hall k (by omega)
      simp [Array.getElem?_setIfInBounds_ne e] at this ⊢; exact this
  -- whoever stands ready in the whole stands so in the short one, or is the last
  have rdy : ∀ (listed ls : Array Bool) (i : Nat), listed.size = z + 1 → ls.size = z → (∀ j, j < z → ls.getD j false = listed.getD j false) → i < z → i ∈ Region.ready .any l.toArray listed → i ∈ Region.ready .any (l.take z).toArray ls := by
    intro listed ls i hs hss heq hi hr
    obtain ⟨h1, o, ho, hall⟩ := mem_ready.1 hr
    have ho' : l[i]? = some o := by simpa using ho
    refine mem_ready.2 ⟨?_, o, ?_, fun e he hb => ?_⟩
    · have := heq i hi
      have hil : i < listed.size := by omega
      have his : i < ls.size := by omega
      simp [hil, his] at h1 this ⊢
      rw [this, h1]
    · have := hgt i hi
      rw [ho'] at this
      simpa using this
    · have hlt := hac i o ho' e he hb
      rw [heq _ (by omega)]
      exact hall e he hb
  have lastAll : ∀ (listed : Array Bool), listed.size = z + 1 → (∀ k o, l[k]? = some o → listed.getD k false = true → ∀ j, Dep o j → listed.getD j false = true) → z ∈ Region.ready .any l.toArray listed → ∀ j, j < z → listed.getD j false = true := by
    intro listed hs hclo hr
    obtain ⟨h1, o, ho, hall⟩ := mem_ready.1 hr
    have ho' : l[z]? = some o := by simpa using ho
    have dz : ∀ j, Dep o j → listed.getD j false = true := fun j hj => by
      obtain ⟨e, hem, hee⟩ := List.any_eq_true.1 hj
      simp only [Bool.and_eq_true, beq_iff_eq] at hee
      exact hee.2 ▸ hall _ (Array.mem_def.2 hem) hee.1
    have hallz : ∀ n j, z - j ≤ n → j < z → listed.getD j false = true := by
      intro n
      induction n with
      | zero => intro j h1 h2; omega
      | succ n ihn =>
        intro j h1 h2
        obtain ⟨k, o2, hjk, hk2, hd⟩ := hlate j h2
        have hkl : k < l.length := (List.getElem?_eq_some_iff.1 hk2).1
        by_cases e : k = z
        · subst e
          rw [ho'] at hk2; cases hk2
          exact dz j hd
        · exact hclo k o2 hk2 (ihn k (by omega) (by omega)) j hd
    exact fun j hj => hallz _ j (Nat.le_refl _) hj
  have notEmpty : ∀ (listed : Array Bool), listed.size = z + 1 → listed.getD z false = false → Region.ready .any l.toArray listed ≠ [] := by
    intro listed hs hnz hr
    have := Rely.all_listed (by omega) hac hr z hzl
    rw [this] at hnz; cases hnz
  have shortDone : ∀ (ls : Array Bool), ls.size = z → (∀ j, j < z → ls.getD j false = true) → Region.ready .any (l.take z).toArray ls = [] := by
    intro ls hs hall
    apply List.eq_nil_iff_forall_not_mem.2
    intro j hj
    obtain ⟨h1, o, ho, -⟩ := mem_ready.1 hj
    have hlt : j < z := by have := (Array.getElem?_eq_some_iff.1 ho).1; simp at this; omega
    have h2 := hall j hlt
    have hjs : j < ls.size := by omega
    simp [hjs] at h1 h2
    rw [h1] at h2; cases h2
  intro fuel
  induction fuel with
  | zero =>
    intro listed ls a w hs hss heq hnz hclo h
    refine ⟨fun hr => absurd hr (notEmpty listed hs hnz), fun i hi => ?_⟩
    have hallS := Rely.all_listed (l := l.take z) (by rw [htl]; exact hss) hacS h.1
    have hall : ∀ j, j < z → listed.getD j false = true := fun j hj => by rw [← heq j hj]; exact hallS j (by omega)
    by_cases hiz : i = z
    · subst hiz
      exact fin listed a w hs hall h.2 0
    · obtain ⟨h1, o, ho, -⟩ := mem_ready.1 hi
      have hlt : i < l.length := by have := (Array.getElem?_eq_some_iff.1 ho).1; simpa using this
      have h2 := hall i (by omega)
      have hil : i < listed.size := by omega
      simp [hil] at h1 h2
      rw [h1] at h2; cases h2
  | succ fuel ih =>
    intro listed ls a w hs hss heq hnz hclo h
    refine ⟨fun hr => absurd hr (notEmpty listed hs hnz), fun i hi => ?_⟩
    by_cases hiz : i = z
    · subst hiz
      have hall := lastAll listed hs hclo hi
      exact fin listed a w hs hall (h.1 (shortDone ls hss fun j hj => by rw [heq j hj]; exact hall j hj)) (fuel + 1)
    · obtain ⟨h1, o, ho, hdep⟩ := mem_ready.1 hi
      have ho' : l[i]? = some o := by simpa using ho
      have hlt : i < l.length := (List.getElem?_eq_some_iff.1 ho').1
      have hi2 : i < z := by omega
      have hS := h.2 i (rdy listed ls i hs hss heq hi2 hi)
      have hoS : (l.take z).toArray[i]? = some o := by
        have := hgt i hi2
        rw [ho'] at this
        simpa using this
      unfold wpOp at hS ⊢
      simp only [hoS] at hS
      simp only [ho]
      have hgo := hg o (List.mem_of_getElem? ho')
      have hw1 : Region.wanted o (yielded (l.take z).toArray a.tmps) = true := by unfold Region.wanted; rw [hgo]
      have hw2 : Region.wanted o (yielded l.toArray a.tmps) = true := by unfold Region.wanted; rw [hgo]
      rw [if_pos hw1] at hS
      rw [if_pos hw2]
      refine hS.imp (fun hS => Oper.wp_mono (fun a' w' hk => ?_) (wp_then hS)) (fun hS => ⟨hS.1, letsOut hS.2⟩)
      refine ih _ _ a' w' (by simp [hs]) (by simp [hss]) (fun j hj => ?_) ?_ (fun k o2 hk2 hkl j hj => ?_) hk
      · by_cases e : i = j
        · subst e; simp [hs, hss, hi2]; omega
        · have := heq j hj
          simp [Array.getElem?_setIfInBounds_ne e] at this ⊢; exact this
      · simp [Array.getElem?_setIfInBounds_ne hiz] at hnz ⊢; exact hnz
      · have hset : ∀ k, listed.getD k false = true → (listed.setIfInBounds i true).getD k false = true := fun k hk => by
          by_cases e : i = k
          · subst e; simp [hs]; omega
          · simp [Array.getElem?_setIfInBounds_ne e] at hk ⊢; exact hk
        by_cases e : i = k
        · subst e
          rw [ho'] at hk2; cases hk2
          obtain ⟨e, hem, hee⟩ := List.any_eq_true.1 hj
          simp only [Bool.and_eq_true, beq_iff_eq] at hee
          exact hset j (hee.2 ▸ hdep _ (Array.mem_def.2 hem) hee.1)
        · refine hset j (hclo k o2 hk2 ?_ j hj)
          simp [Array.getElem?_setIfInBounds_ne e] at hkl ⊢; exact hkl

/-- Each operation but the last is another's forerunner. -/
def late (l : List Oper) (z : Nat) : Bool := (List.range z).all fun j => l.zipIdx.any fun p => decide (j < p.2) && p.1.after.toList.any fun e => Region.binds .any e && e.on == j
theorem late_at {z : Nat} (h : late l z = true) : ∀ j, j < z → ∃ k o, j < k ∧ l[k]? = some o ∧ Dep o j := fun j hj => by
  have h1 := List.all_eq_true.1 h j (List.mem_range.2 hj)
  obtain ⟨⟨o, k⟩, hp, h2⟩ := List.any_eq_true.1 h1
  simp only [Bool.and_eq_true, decide_eq_true_eq] at h2
  exact ⟨k, o, h2.1, (List.mem_zipIdx_iff_getElem?.1 hp), h2.2⟩
/-- **A region that draws its order**, all but its last operation quiet in a class of worlds: walked once, in the text's order, the last one behind it. -/
theorem wp_region_quiet_last {id : Nat} {a : Act} {w : World} {s : List Oper} {oz : Oper} {C : World → Prop} (z : Nat) (hs : l = s ++ [oz]) (hn : s.length = z) (hm : P.follows .mixedOrders = true)
    (hg : (l.all fun o => o.guard.isNone) = true) (hac : (l.zipIdx.all fun p => p.1.after.all fun e => !Region.binds .any e || decide (e.on < p.2)) = true) (hlate : late l z = true)
    (hB : Region.lexB .any s.toArray = true) (hC : C { w with drawn := w.drawn + 1 })
    (h : wpQuiet P s.toArray C (fun a' => ∀ w', C w' → wpList P l.toArray Q [oz] a' w') s a) : (Code.region id l.toArray true).wp P Q a w := by
  have hz : l.length = z + 1 := by rw [hs]; simp [hn]
  have hzo : l[z]? = some oz := by rw [hs, ← hn]; simp
  have ht : l.take z = s := by rw [hs, ← hn]; simp
  simp only [Region.lexB, Bool.and_eq_true] at hB
  refine wp_region_any hm ?_
  have hsz : l.toArray.size = z + 1 := by simpa using hz
  rw [hsz]
  refine wpAny_last hz hzo (fun o ho => ?_) (fun k o hk e he hb => ?_) (late_at hlate) z _ (Array.replicate z false) a _ (by simp) (by simp) (fun j hj => ?_) ?_ (fun k o hk hl => ?_) ?_
  · have := List.all_eq_true.1 hg o ho
    simpa using this
  · have h1 := List.all_eq_true.1 hac (o, k) (List.mem_zipIdx_iff_getElem?.2 (by simpa using hk))
    have h2 := Array.all_eq_true_iff_forall_mem.1 h1 e he
    simpa [hb] using h2
  · have h1 : j < z + 1 := by omega
    simp [hj, h1]
  · simp
  · have hkl : k < z + 1 := by have := (List.getElem?_eq_some_iff.1 hk).1; omega
    simp [hkl] at hl
  · rw [ht]
    refine wpAny_of_quiet (Q := fun a' => ∀ w', C w' → wpList P l.toArray Q [oz] a' w') (fun _ w' hw' h => h w' hw') _ _ _ _ hC ?_
    have := wpAnyQ_lex (C := C) (md := .any) hB.1 s 0 (Array.replicate s.toArray.size false) a (by simp) (by simpa using hB.2) h
    rw [← hn]
    simpa using this
/-- .. at the class of the worlds that Below makes. -/
theorem wp_region_below_last {id : Nat} {a : Act} {w : World} {s : List Oper} {oz : Oper} (z : Nat) (hs : l = s ++ [oz]) (hn : s.length = z) (hm : P.follows .mixedOrders = true)
    (hg : (l.all fun o => o.guard.isNone) = true) (hac : (l.zipIdx.all fun p => p.1.after.all fun e => !Region.binds .any e || decide (e.on < p.2)) = true) (hlate : late l z = true)
    (hB : Region.lexB .any s.toArray = true)
    (h : wpQuiet P s.toArray (fun w' => ∃ p : Regrown, w' = Sort.grow (redrawn w p.d) p.os) (fun a' => ∀ w', (∃ p : Regrown, w' = Sort.grow (redrawn w p.d) p.os) → wpList P l.toArray Q [oz] a' w') s a) : (Code.region id l.toArray true).wp P Q a w :=
  wp_region_quiet_last (C := fun w' => ∃ p : Regrown, w' = Sort.grow (redrawn w p.d) p.os) z hs hn hm hg hac hlate hB ⟨⟨w.drawn + 1, #[]⟩, by rw [Sort.grow_empty]; rfl⟩ h
/-- .. of fourteen operations. -/
theorem wp_region_below_last14 {id : Nat} {a : Act} {w : World} {o1 o2 o3 o4 o5 o6 o7 o8 o9 o10 o11 o12 o13 oz : Oper} (hm : P.follows .mixedOrders = true)
    (hg : ([o1, o2, o3, o4, o5, o6, o7, o8, o9, o10, o11, o12, o13, oz].all fun o => o.guard.isNone) = true)
    (hac : ([o1, o2, o3, o4, o5, o6, o7, o8, o9, o10, o11, o12, o13, oz].zipIdx.all fun p => p.1.after.all fun e => !Region.binds .any e || decide (e.on < p.2)) = true)
    (hlate : late [o1, o2, o3, o4, o5, o6, o7, o8, o9, o10, o11, o12, o13, oz] 13 = true)
    (hB : Region.lexB .any #[o1, o2, o3, o4, o5, o6, o7, o8, o9, o10, o11, o12, o13] = true)
    (h : wpQuiet P #[o1, o2, o3, o4, o5, o6, o7, o8, o9, o10, o11, o12, o13] (fun w' => ∃ p : Regrown, w' = Sort.grow (redrawn w p.d) p.os) (fun a' => ∀ w', (∃ p : Regrown, w' = Sort.grow (redrawn w p.d) p.os) → wpList P #[o1, o2, o3, o4, o5, o6, o7, o8, o9, o10, o11, o12, o13, oz] Q [oz] a' w') [o1, o2, o3, o4, o5, o6, o7, o8, o9, o10, o11, o12, o13] a) :
    (Code.region id #[o1, o2, o3, o4, o5, o6, o7, o8, o9, o10, o11, o12, o13, oz] true).wp P Q a w :=
  wp_region_below_last (l := [o1, o2, o3, o4, o5, o6, o7, o8, o9, o10, o11, o12, o13, oz]) (s := [o1, o2, o3, o4, o5, o6, o7, o8, o9, o10, o11, o12, o13]) (oz := oz) 13 rfl rfl hm hg hac hlate hB h
end LastOp
end Go.Proofs.YtlaidjgdipacgaaGreatDoor
end
