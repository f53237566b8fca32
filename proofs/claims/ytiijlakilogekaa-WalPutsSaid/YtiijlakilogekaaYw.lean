/-
  The texts Yr Ys Yt Gk Gl Wu in one. (Merged by wip/lay10m.py.)
-/
import Derived.BigQuiet
import Derived.Test.YtiijlakilogekaaGg
import Derived.Test.YtiijlakilogekaaRd
import Derived.Test.YtiijlakilogekaaRs
import Derived.Deep.CutBlock
import Derived.Deep.AppendLies
import Derived.Test.YtiijlakilogekaaGf
import Derived.Test.YtiijlakilogekaaWb
import Derived.Test.YtiijlakilogekaaWs
import Derived.Test.YtiijlakilogekaaWl
import Derived.Test.YtiijlakilogekaaWv
import Derived.Test.YtiijlakilogekaaWo
import Derived.Lib.QuietBelow

section
namespace Go.Proofs.Ytiijlakilogekaa
open Go.RowKit

namespace Rely
variable {P : Program} {l : List Oper} {C : World → Prop} {G : World → World → Prop} {R : Nat → Value → World → Prop} {a0 : Act}

def valR (l : List Oper) (ρ : Operand → Value) (k : Nat) : Value :=
  match l[k]? with
  | some o => (match o.dst with | some d => ρ (.tmp d) | none => undef)
  | none => undef
abbrev valAt (l : List Oper) (a : Act) (k : Nat) : Value := valR l a.eval k
def stored (o : Oper) (v : Value) : Value := match o.dst with | some _ => v | none => undef

structure Inv (l : List Oper) (C : World → Prop) (R : Nat → Value → World → Prop) (a0 : Act) (listed : Array Bool) (a : Act) (w : World) : Prop where
  cls : C w
  lsize : listed.size = l.length
  size : a.tmps.size = a0.tmps.size
  defers : a.defers = a0.defers
  old : ∀ s, (∀ o ∈ l, o.dst ≠ some s) → a.tmps[s]? = a0.tmps[s]?
  new : ∀ k, k < l.length → listed.getD k false = true → R k (valAt l a k) w

/-- What is to be shown of one operation. -/
def Ob (P : Program) (l : List Oper) (C : World → Prop) (G : World → World → Prop) (R : Nat → Value → World → Prop) (a0 : Act) (k : Nat) (o : Oper) : Prop :=
  ∀ (a : Act) (w : World), C w → (∀ s, (l.all fun o' => !(o'.dst == some s)) = true → a.eval (.tmp s) = a0.eval (.tmp s)) →
    (∀ j, (o.after.toList.any fun e => Region.binds .any e && e.on == j) = true → j < l.length → R j (valAt l a j) w) →
    (Region.wanted o (yielded l.toArray a.tmps) = true → ∀ (K : Act → World → Prop) (Q : Exit → Act → World → Prop), (∀ v w', C w' → G w w' → R k (stored o v) w' → K (a.put o.dst v) w') → o.wp P a w K Q) ∧
    (Region.wanted o (yielded l.toArray a.tmps) = false → G w w ∧ R k undef w)
def AllOb (P : Program) (l : List Oper) (C : World → Prop) (G : World → World → Prop) (R : Nat → Value → World → Prop) (a0 : Act) : Nat → List Oper → Prop
  | _, [] => True
  | k, o :: r => Ob P l C G R a0 k o ∧ AllOb P l C G R a0 (k + 1) r
def AllR (R : Nat → Value → World → Prop) (vs : Nat → Value) (w : World) : Nat → List Oper → Prop
  | _, [] => True
  | k, _ :: r => R k (vs k) w ∧ AllR R vs w (k + 1) r
def putAll : List Oper → Nat → (Nat → Value) → Act → Act
  | [], _, _, a => a
  | o :: r, k, vs, a => putAll r (k + 1) vs (a.put o.dst (vs k))

theorem allOb_at : ∀ {r : List Oper} {k : Nat}, AllOb P l C G R a0 k r → ∀ {j : Nat} {o : Oper}, r[j]? = some o → Ob P l C G R a0 (k + j) o
  | [], _, _, j, o, h => by simp at h
  | x :: r, k, hr, 0, o, h => by simp at h; subst h; exact hr.1
  | x :: r, k, hr, j + 1, o, h => by
    have := allOb_at hr.2 (j := j) (o := o) (by simpa using h)
    rwa [show k + (j + 1) = k + 1 + j by omega]
theorem allR_of {vs : Nat → Value} {w : World} : ∀ {r : List Oper} {k : Nat}, (∀ j, j < r.length → R (k + j) (vs (k + j)) w) → AllR R vs w k r
  | [], _, _ => trivial
  | x :: r, k, h => ⟨h 0 (by simp), allR_of fun j hj => by
      have := h (j + 1) (by simp; omega)
      rwa [show k + (j + 1) = k + 1 + j by omega] at this⟩
theorem put_size (a : Act) (d : Option Tmp) (v : Value) : (a.put d v).tmps.size = a.tmps.size := by cases d <;> simp [Act.put]
theorem put_defers (a : Act) (d : Option Tmp) (v : Value) : (a.put d v).defers = a.defers := by cases d <;> rfl
theorem put_ne (a : Act) (d : Option Tmp) (v : Value) (s : Nat) (h : d ≠ some s) : (a.put d v).tmps[s]? = a.tmps[s]? := by
  cases d with
  | none => rfl
  | some d => simp only [Act.put]; rw [Array.getElem?_setIfInBounds_ne (fun e => h (by rw [e]))]
theorem put_self (a : Act) (d : Tmp) (v : Value) (h : d < a.tmps.size) : (a.put (some d) v).tmps[d]? = some v := by
  simp [Act.put, h]
theorem eval_getD (a : Act) (s : Nat) : a.eval (.tmp s) = (a.tmps[s]?).getD undef := by simp [Act.eval]
theorem putAll_size : ∀ (r : List Oper) (k : Nat) (vs : Nat → Value) (a : Act), (putAll r k vs a).tmps.size = a.tmps.size
  | [], _, _, _ => rfl
  | _ :: r, k, vs, _ => (putAll_size r (k + 1) vs _).trans (put_size _ _ _)
theorem putAll_defers : ∀ (r : List Oper) (k : Nat) (vs : Nat → Value) (a : Act), (putAll r k vs a).defers = a.defers
  | [], _, _, _ => rfl
  | _ :: r, k, vs, _ => (putAll_defers r (k + 1) vs _).trans (put_defers _ _ _)
theorem putAll_old (s : Nat) : ∀ (r : List Oper) (k : Nat) (vs : Nat → Value) (a : Act), (∀ o ∈ r, o.dst ≠ some s) → (putAll r k vs a).tmps[s]? = a.tmps[s]?
  | [], _, _, _, _ => rfl
  | o :: r, k, vs, a, h => (putAll_old s r (k + 1) vs _ fun o' ho' => h o' (by simp [ho'])).trans (put_ne _ _ _ _ (h o (by simp)))
theorem putAll_new {d : Nat} : ∀ {r : List Oper} {k : Nat} {vs : Nat → Value} {a : Act} {j : Nat} {o : Oper}, (r.filterMap (·.dst)).Nodup → d < a.tmps.size → r[j]? = some o → o.dst = some d → (putAll r k vs a).tmps[d]? = some (vs (k + j))
  | [], _, _, _, _, _, _, _, h, _ => by simp at h
  | x :: r, k, vs, a, 0, o, hn, hd, h, ho => by
    simp at h; subst h
    rw [List.filterMap_cons_some ho, List.nodup_cons] at hn
    show (putAll r (k + 1) vs (a.put x.dst (vs k))).tmps[d]? = some (vs k)
    rw [putAll_old d r _ _ _ (fun o' ho' e => hn.1 (List.mem_filterMap.2 ⟨o', ho', e⟩)), ho, put_self _ _ _ hd]
  | x :: r, k, vs, a, j + 1, o, hn, hd, h, ho => by
    have hn' : (r.filterMap (·.dst)).Nodup := by
      cases hx : x.dst with
      | none => rwa [List.filterMap_cons_none hx] at hn
      | some y => rw [List.filterMap_cons_some hx] at hn; exact (List.nodup_cons.1 hn).2
    have := putAll_new (k := k + 1) (vs := vs) (a := a.put x.dst (vs k)) (j := j) (o := o) hn' (by rw [put_size]; exact hd) (by simpa using h) ho
    rw [show k + (j + 1) = k + 1 + j by omega]
    exact this
/-- The frame at the end, written as the text's order would write it. -/
theorem frame_eq {a : Act} (hnd : (l.filterMap (·.dst)).Nodup) (hsz : ∀ d ∈ l.filterMap (·.dst), d < a0.tmps.size) (hs : a.tmps.size = a0.tmps.size) (hdf : a.defers = a0.defers)
    (hold : ∀ s, (∀ o ∈ l, o.dst ≠ some s) → a.tmps[s]? = a0.tmps[s]?) : a = putAll l 0 (valAt l a) a0 := by
  have ht : a.tmps = (putAll l 0 (valAt l a) a0).tmps := by
    apply Array.ext_getElem?
    intro s
    by_cases h : ∀ o ∈ l, o.dst ≠ some s
    · rw [hold s h, putAll_old s l _ _ _ h]
    · simp only [Classical.not_forall, Classical.not_not] at h
      obtain ⟨o, ho, hd⟩ := h
      obtain ⟨j, hj⟩ := List.mem_iff_getElem?.1 ho
      have hlt := hsz s (List.mem_filterMap.2 ⟨o, ho, hd⟩)
      rw [putAll_new hnd hlt hj hd, Nat.zero_add]
      unfold valAt valR
      rw [hj]; simp only [hd, eval_getD]
      rw [Array.getElem?_eq_getElem (by omega)]; rfl
  have hd : a.defers = (putAll l 0 (valAt l a) a0).defers := hdf.trans (putAll_defers _ _ _ _).symm
  cases a; cases hp : putAll l 0 _ a0
  rw [hp] at ht hd
  cases ht; cases hd
  rfl
theorem countP_less {f g : Nat → Bool} (h : ∀ x, g x = true → f x = true) {i : Nat} (hf : f i = true) (hg : g i = false) : ∀ {L : List Nat}, i ∈ L → L.countP g + 1 ≤ L.countP f
  | [], hi => by cases hi
  | x :: L, hi => by
    have hle : L.countP g ≤ L.countP f := List.countP_mono_left fun x _ => h x
    rw [List.countP_cons, List.countP_cons]
    rcases List.mem_cons.1 hi with rfl | hi
    · simp [hf, hg]; exact hle
    · have := countP_less h hf hg hi
      by_cases hx : g x = true
      · simp [hx, h x hx]; omega
      · simp [hx]; omega
/-- Where nothing is ready all have come up. -/
theorem all_listed {listed : Array Bool} (hls : listed.size = l.length) (hac : ∀ k o, l[k]? = some o → ∀ e ∈ o.after, Region.binds .any e = true → e.on < k) (h : Region.ready .any l.toArray listed = []) : ∀ k, k < l.length → listed.getD k false = true := by
  intro k
  induction k using Nat.strongRecOn with
  | _ k ih =>
    intro hk
    apply Classical.byContradiction
    intro hn
    have : k ∈ Region.ready .any l.toArray listed := by
      refine mem_ready.2 ⟨?_, l[k], by simp [hk], fun e he hb => ?_⟩
      · simp [hls, hk] at hn ⊢; exact hn
      · have := hac k l[k] (by simp [hk]) e he hb
        exact ih _ this (by omega)
    rw [h] at this; cases this

theorem wpAny_of_inv {Q : Exit → Act → World → Prop} (hnd : (l.filterMap (·.dst)).Nodup) (hsz : ∀ d ∈ l.filterMap (·.dst), d < a0.tmps.size)
    (hac : ∀ k o, l[k]? = some o → ∀ e ∈ o.after, Region.binds .any e = true → e.on < k)
    (hst : ∀ k v w w', C w → C w' → G w w' → R k v w → R k v w') (hob : AllOb P l C G R a0 0 l)
    (hQ : ∀ (vs : Nat → Value) (w' : World), C w' → AllR R vs w' 0 l → Q .normal (putAll l 0 vs a0) w') :
    ∀ (fuel : Nat) (listed : Array Bool) (a : Act) (w : World), (List.range l.length).countP (fun i => !listed.getD i true) ≤ fuel → Inv l C R a0 listed a w → wpAny P .any l.toArray Q fuel listed a w := by
  have fin : ∀ (listed : Array Bool) (a : Act) (w : World), Inv l C R a0 listed a w → (∀ k, k < l.length → listed.getD k false = true) → Q .normal a w := by
    intro listed a w hi hall
    have := hQ (valAt l a) w hi.cls (allR_of fun j hj => by rw [Nat.zero_add]; exact hi.new j hj (hall j hj))
    rwa [← frame_eq hnd hsz hi.size hi.defers hi.old] at this
  intro fuel
  induction fuel with
  | zero =>
    intro listed a w hc hi
    have hr : Region.ready .any l.toArray listed = [] := by
      apply List.eq_nil_iff_forall_not_mem.2
      intro j hj
      obtain ⟨h1, o, ho, -⟩ := mem_ready.1 hj
      have hlt : j < l.length := by
        have := (Array.getElem?_eq_some_iff.1 ho).1; simpa using this
      have : (List.range l.length).countP (fun i => !listed.getD i true) = 0 := Nat.le_zero.1 hc
      have := List.countP_eq_zero.1 this j (List.mem_range.2 hlt)
      simp [h1] at this
    exact ⟨hr, fin listed a w hi (all_listed hi.lsize hac hr)⟩
  | succ fuel ih =>
    intro listed a w hc hi
    refine ⟨fun hr => fin listed a w hi (all_listed hi.lsize hac hr), fun i hri => ?_⟩
    obtain ⟨h1, o, ho, hall⟩ := mem_ready.1 hri
    have hol : l[i]? = some o := by simpa using ho
    have hlt : i < l.length := (List.getElem?_eq_some_iff.1 hol).1
    have hO := allOb_at hob hol
    rw [Nat.zero_add] at hO
    have hO' := hO a w hi.cls (fun s hs => by rw [eval_getD, eval_getD, hi.old s (fun o' ho' e => by have := List.all_eq_true.1 hs o' ho'; simp [e] at this)]) (fun j hj hl => by
      obtain ⟨e, hem, he⟩ := List.any_eq_true.1 hj
      simp only [Bool.and_eq_true, beq_iff_eq] at he
      exact he.2 ▸ hi.new e.on (by rw [he.2]; exact hl) (hall _ (Array.mem_def.2 hem) he.1))
    have hcount : (List.range l.length).countP (fun j => !(listed.setIfInBounds i true).getD j true) ≤ fuel := by
      have := countP_less (f := fun j => !listed.getD j true) (g := fun j => !(listed.setIfInBounds i true).getD j true) (fun x hx => by
        by_cases e : i = x
        · subst e; simp [hi.lsize, hlt] at hx
        · simp [Array.getElem?_setIfInBounds_ne e] at hx ⊢; exact hx) (i := i) (by simp [h1]) (by simp [hi.lsize, hlt]) (List.mem_range.2 hlt)
      omega
    have step : ∀ v w', C w' → G w w' → R i (stored o v) w' → wpAny P .any l.toArray Q fuel (listed.setIfInBounds i true) (a.put o.dst v) w' := by
      intro v w' hC hG hR
      refine ih _ _ _ hcount ⟨hC, by simp [hi.lsize], by rw [put_size, hi.size], by rw [put_defers, hi.defers], fun s hs => ?_, fun k hk hkl => ?_⟩
      · rw [put_ne _ _ _ _ (hs o (List.mem_of_getElem? hol)), hi.old s hs]
      · by_cases e : i = k
        · subst e
          have : valAt l (a.put o.dst v) i = stored o v := by
            unfold valAt valR stored
            rw [hol]
            cases hd : o.dst with
            | none => simp [hd]
            | some d =>
              simp only [hd]
              rw [eval_getD, put_self _ _ _ (by rw [hi.size]; exact hsz d (List.mem_filterMap.2 ⟨o, List.mem_of_getElem? hol, hd⟩))]; rfl
          rw [this]; exact hR
        · have hkl' : listed.getD k false = true := by
            simp [Array.getElem?_setIfInBounds_ne e] at hkl ⊢; exact hkl
          have : valAt l (a.put o.dst v) k = valAt l a k := by
            unfold valAt valR
            cases hk2 : l[k]? with
            | none => rfl
            | some o2 =>
              cases hd : o2.dst with
              | none => simp [hd]
              | some d =>
                simp only [hd]
                rw [eval_getD, eval_getD, put_ne]
                intro e2
                exact e (nodup_at hnd hol hk2 e2 hd)
          rw [this]
          exact hst k _ w w' hi.cls hC hG (hi.new k hk hkl')
    unfold wpOp
    simp only [ho]
    by_cases hw : Region.wanted o (yielded l.toArray a.tmps) = true
    · rw [if_pos hw]
      exact .inl (hO'.1 hw _ _ fun v w' hC hG hR => step v w' hC hG hR)
    · rw [if_neg hw]
      have hx := hO'.2 (by simpa using hw)
      exact step undef w hi.cls hx.1 (by unfold stored; cases o.dst <;> exact hx.2)
where
  nodup_at {l : List Oper} {i k : Nat} {o o2 : Oper} {d : Tmp} (hnd : (l.filterMap (·.dst)).Nodup) (hi : l[i]? = some o) (hk : l[k]? = some o2) (h1 : o.dst = some d) (h2 : o2.dst = some d) : i = k := by
    induction l generalizing i k with
    | nil => simp at hi
    | cons x r ih =>
      have hn' : (r.filterMap (·.dst)).Nodup := by
        cases hx : x.dst with
        | none => rwa [List.filterMap_cons_none hx] at hnd
        | some y => rw [List.filterMap_cons_some hx] at hnd; exact (List.nodup_cons.1 hnd).2
      cases i with
      | zero =>
        cases k with
        | zero => rfl
        | succ k =>
          simp at hi hk; subst hi
          rw [List.filterMap_cons_some h1, List.nodup_cons] at hnd
          exact absurd (List.mem_filterMap.2 ⟨o2, List.mem_of_getElem? hk, h2⟩) hnd.1
      | succ i =>
        cases k with
        | zero =>
          simp at hi hk; subst hk
          rw [List.filterMap_cons_some h2, List.nodup_cons] at hnd
          exact absurd (List.mem_filterMap.2 ⟨o, List.mem_of_getElem? hi, h1⟩) hnd.1
        | succ k =>
          have h9 := ih hn' (by simpa using hi) (by simpa using hk)
          omega

/-- **A region that draws its order**: if every operation, in whatever order, yields what its predicate says and keeps what the others' say, then the region ends in all of them. -/
theorem wp_region_rely {id : Nat} {Q : Exit → Act → World → Prop} {w : World} (C : World → Prop) (G : World → World → Prop) (R : Nat → Value → World → Prop) (hm : P.follows .mixedOrders = true)
    (hnd : (l.filterMap (·.dst)).Nodup) (hsz : (l.filterMap (·.dst)).all (fun d => decide (d < a0.tmps.size)) = true)
    (hac : (l.zipIdx.all fun p => p.1.after.all fun e => !Region.binds .any e || decide (e.on < p.2)) = true)
    (hC : C { w with drawn := w.drawn + 1 }) (hst : ∀ k v w w', C w → C w' → G w w' → R k v w → R k v w') (hob : AllOb P l C G R a0 0 l)
    (hQ : ∀ (vs : Nat → Value) (w' : World), C w' → AllR R vs w' 0 l → Q .normal (putAll l 0 vs a0) w') : (Code.region id l.toArray true).wp P Q a0 w := by
  refine wp_region_any hm (wpAny_of_inv hnd (fun d hd => by simpa using List.all_eq_true.1 hsz d hd) (fun k o hk e he hb => ?_) hst hob hQ _ _ _ _ ?_ ⟨hC, by simp, rfl, rfl, fun _ _ => rfl, fun k hk hl => ?_⟩)
  · have h1 := List.all_eq_true.1 hac (o, k) (List.mem_zipIdx_iff_getElem?.2 (by simpa using hk))
    have h2 := Array.all_eq_true_iff_forall_mem.1 h1 e he
    simpa [hb] using h2
  · have := List.countP_le_length (p := fun i => !(Array.replicate l.toArray.size false).getD i true) (l := List.range l.length)
    simpa using this
  · simp [hk] at hl
theorem allR_at {vs : Nat → Value} {w : World} : ∀ {r : List Oper} {k : Nat}, AllR R vs w k r → ∀ j, j < r.length → R (k + j) (vs (k + j)) w
  | [], _, _, _, h => by cases h
  | _ :: _, _, hr, 0, _ => hr.1
  | _ :: r, k, hr, j + 1, h => by
    have := allR_at hr.2 j (by simpa using h)
    rwa [show k + (j + 1) = k + 1 + j by omega]
theorem allOb_cons {k : Nat} {o : Oper} {r : List Oper} (h : Ob P l C G R a0 k o) (hr : AllOb P l C G R a0 (k + 1) r) : AllOb P l C G R a0 k (o :: r) := ⟨h, hr⟩
theorem allOb_nil {k : Nat} : AllOb P l C G R a0 k [] := trivial
theorem yielded_of {a : Act} {j : Nat} {b : Bool} (h : valAt l a j = .bool b) : yielded l.toArray a.tmps j = some b := by
  unfold valAt valR at h
  unfold yielded
  cases hj : l[j]? with
  | none => rw [hj] at h; cases h
  | some o =>
    rw [hj] at h
    simp only at h
    cases hd : o.dst with
    | none => rw [hd] at h; cases h
    | some d =>
      rw [hd] at h
      simp only [eval_getD] at h
      cases ht : a.tmps[d]? with
      | none => rw [ht] at h; cases h
      | some v =>
        rw [ht] at h
        simp at h; subst h
        simp [hj, hd, ht]
abbrev Runs (P : Program) (l : List Oper) (C : World → Prop) (G : World → World → Prop) (R : Nat → Value → World → Prop) (a0 : Act) (k : Nat) (o : Oper) : Prop :=
  ∀ (a : Act) (ρ : Operand → Value), (∀ v, ρ (.const v) = v) → (∀ g, ρ (.global g) = .pointer (some ⟨g, 0, none⟩)) → (∀ f, ρ (.func f) = .func (.func f) #[] #[]) →
    ∀ (w : World), C w → (∀ s, (l.all fun o' => !(o'.dst == some s)) = true → ρ (.tmp s) = a0.eval (.tmp s)) →
    (∀ j, (o.after.toList.any fun e => Region.binds .any e && e.on == j) = true → j < l.length → R j (valR l ρ j) w) →
    ∀ (K : Act → World → Prop) (Q : Exit → Act → World → Prop), (∀ v w', C w' → G w w' → R k (stored o v) w' → K (a.put o.dst v) w') → o.upon P a K Q ((execOp ρ o).run P w)
theorem upon_move {o : Oper} {a : Act} {ρ : Operand → Value} {w : World} {K : Act → World → Prop} {Q : Exit → Act → World → Prop} (x : Operand) (h : o.op = .move x) (hk : K (a.put o.dst (ρ x)) w) : o.upon P a K Q ((execOp ρ o).run P w) := by
  simp [execOp, h, Oper.upon]; exact hk
theorem upon_assign {o : Oper} {a : Act} {ρ : Operand → Value} {w : World} {K : Act → World → Prop} {Q : Exit → Act → World → Prop} (x : Operand) (h : o.op = .assign x) (hk : K (a.put o.dst (ρ x)) w) : o.upon P a K Q ((execOp ρ o).run P w) := by
  simp [execOp, h, Oper.upon]; exact hk
theorem ob_plain {k : Nat} {o : Oper} (hg : o.guard = none) (h : Runs P l C G R a0 k o) : Ob P l C G R a0 k o := fun a w hC hold hdep =>
  ⟨fun _ K Q hK => h a a.eval (fun _ => rfl) (fun _ => rfl) (fun _ => rfl) w hC hold hdep K Q hK, fun hw => by unfold Region.wanted at hw; rw [hg] at hw; cases hw⟩
theorem ob_want {k : Nat} {o : Oper} (j : Nat) (b : Bool) (hg : o.guard = some (j, b)) (hd : (o.after.toList.any fun e => Region.binds .any e && e.on == j) = true) (hj : j < l.length) (hR : ∀ v w, R j v w → v = .bool b) (h : Runs P l C G R a0 k o) : Ob P l C G R a0 k o := fun a w hC hold hdep =>
  ⟨fun _ K Q hK => h a a.eval (fun _ => rfl) (fun _ => rfl) (fun _ => rfl) w hC hold hdep K Q hK, fun hw => by
    unfold Region.wanted at hw; rw [hg] at hw
    have := yielded_of (hR _ _ (hdep j hd hj))
    simp [this] at hw⟩
theorem ob_skip {k : Nat} {o : Oper} (j : Nat) (b : Bool) (hg : o.guard = some (j, b)) (hd : (o.after.toList.any fun e => Region.binds .any e && e.on == j) = true) (hj : j < l.length) (hR : ∀ v w, R j v w → v = .bool (!b)) (hG : ∀ w, G w w) (hu : ∀ w, R k undef w) : Ob P l C G R a0 k o := fun a w hC hold hdep =>
  ⟨fun hw => by
    unfold Region.wanted at hw; rw [hg] at hw
    have := yielded_of (hR _ _ (hdep j hd hj))
    simp [this] at hw, fun _ => ⟨hG w, hu w⟩⟩
end Rely
end Go.Proofs.Ytiijlakilogekaa
end

section
namespace Go.Proofs.Ytiijlakilogekaa
open Go.RowKit

namespace Rely2
open Rely (valR valAt putAll frame_eq countP_less all_listed eval_getD put_ne put_self put_size put_defers yielded_of)
variable {P : Program} {l : List Oper} {C : World → Prop} {R : Nat → Value → World → Prop} {S : Value → Value → Prop} {D : Nat → Nat → Bool} {E : Nat → Option Nat} {a0 : Act}

def Live (E : Nat → Option Nat) (listed : Array Bool) (k : Nat) : Prop := listed.getD k false = true ∧ ∀ c, E k = some c → listed.getD c false = false
structure Inv (l : List Oper) (C : World → Prop) (R : Nat → Value → World → Prop) (S : Value → Value → Prop) (D : Nat → Nat → Bool) (E : Nat → Option Nat) (a0 : Act) (listed : Array Bool) (a : Act) (w : World) : Prop where
  cls : C w
  lsize : listed.size = l.length
  size : a.tmps.size = a0.tmps.size
  defers : a.defers = a0.defers
  old : ∀ s, (∀ o ∈ l, o.dst ≠ some s) → a.tmps[s]? = a0.tmps[s]?
  new : ∀ k, k < l.length → Live E listed k → R k (valAt l a k) w
  sep : ∀ j k, j < l.length → k < l.length → Live E listed j → Live E listed k → j ≠ k → D j k = true → S (valAt l a j) (valAt l a k)
abbrev Dep (o : Oper) (j : Nat) : Prop := (o.after.toList.any fun e => Region.binds .any e && e.on == j) = true
abbrev Own (E : Nat → Option Nat) (j k : Nat) : Prop := E j = none ∨ E j = some k
/-- The others that a slot of this value stands apart from. -/
def Apart (l : List Oper) (S : Value → Value → Prop) (D : Nat → Nat → Bool) (E : Nat → Option Nat) (k : Nat) (o : Oper) (V : Nat → Value) (j : Nat) (u : Value) : Prop :=
  ∀ i, Dep o i → i < l.length → Own E i k → i ≠ j → D i j = true → S (V i) u
/-- What an operation leaves of the others. -/
def Keeps (l : List Oper) (R : Nat → Value → World → Prop) (S : Value → Value → Prop) (D : Nat → Nat → Bool) (E : Nat → Option Nat) (k : Nat) (o : Oper) (V : Nat → Value) (w w' : World) : Prop :=
  ∀ j u, j < l.length → j ≠ k → E j ≠ some k → R j u w → Apart l S D E k o V j u → R j u w'
def Seps (l : List Oper) (R : Nat → Value → World → Prop) (S : Value → Value → Prop) (D : Nat → Nat → Bool) (E : Nat → Option Nat) (k : Nat) (o : Oper) (V : Nat → Value) (v : Value) (w : World) : Prop :=
  ∀ j u, j < l.length → j ≠ k → E j ≠ some k → R j u w → Apart l S D E k o V j u → (D j k = true → S u v) ∧ (D k j = true → S v u)
def Ob (P : Program) (l : List Oper) (C : World → Prop) (R : Nat → Value → World → Prop) (S : Value → Value → Prop) (D : Nat → Nat → Bool) (E : Nat → Option Nat) (a0 : Act) (k : Nat) (o : Oper) : Prop :=
  ∀ (a : Act) (w : World), C w → (∀ s, (l.all fun o' => !(o'.dst == some s)) = true → a.eval (.tmp s) = a0.eval (.tmp s)) →
    (∀ j, Dep o j → j < l.length → Own E j k → R j (valAt l a j) w) →
    (Region.wanted o (yielded l.toArray a.tmps) = true → ∀ (K : Act → World → Prop) (Q : Exit → Act → World → Prop), (∀ v w', C w' → Keeps l R S D E k o (valAt l a) w w' → R k (Rely.stored o v) w' → Seps l R S D E k o (valAt l a) (Rely.stored o v) w → K (a.put o.dst v) w') → o.wp P a w K Q) ∧
    (Region.wanted o (yielded l.toArray a.tmps) = false → R k undef w ∧ Seps l R S D E k o (valAt l a) undef w)
def AllOb (P : Program) (l : List Oper) (C : World → Prop) (R : Nat → Value → World → Prop) (S : Value → Value → Prop) (D : Nat → Nat → Bool) (E : Nat → Option Nat) (a0 : Act) : Nat → List Oper → Prop
  | _, [] => True
  | k, o :: r => Ob P l C R S D E a0 k o ∧ AllOb P l C R S D E a0 (k + 1) r
theorem allOb_at : ∀ {r : List Oper} {k : Nat}, AllOb P l C R S D E a0 k r → ∀ {j : Nat} {o : Oper}, r[j]? = some o → Ob P l C R S D E a0 (k + j) o
  | [], _, _, j, o, h => by simp at h
  | x :: r, k, hr, 0, o, h => by simp at h; subst h; exact hr.1
  | x :: r, k, hr, j + 1, o, h => by
    have := allOb_at hr.2 (j := j) (o := o) (by simpa using h)
    rwa [show k + (j + 1) = k + 1 + j by omega]
theorem allOb_cons {k : Nat} {o : Oper} {r : List Oper} (h : Ob P l C R S D E a0 k o) (hr : AllOb P l C R S D E a0 (k + 1) r) : AllOb P l C R S D E a0 k (o :: r) := ⟨h, hr⟩
theorem allOb_nil {k : Nat} : AllOb P l C R S D E a0 k [] := trivial
/-- What is known at the end. -/
def AllR (R : Nat → Value → World → Prop) (E : Nat → Option Nat) (vs : Nat → Value) (w : World) (n : Nat) : Prop := ∀ k, k < n → E k = none → R k (vs k) w
def AllS (S : Value → Value → Prop) (D : Nat → Nat → Bool) (E : Nat → Option Nat) (vs : Nat → Value) (n : Nat) : Prop := ∀ j k, j < n → k < n → E j = none → E k = none → j ≠ k → D j k = true → S (vs j) (vs k)

theorem wpAny_of_inv {Q : Exit → Act → World → Prop} (hnd : (l.filterMap (·.dst)).Nodup) (hsz : ∀ d ∈ l.filterMap (·.dst), d < a0.tmps.size)
    (hac : ∀ k o, l[k]? = some o → ∀ e ∈ o.after, Region.binds .any e = true → e.on < k) (hob : AllOb P l C R S D E a0 0 l)
    (hQ : ∀ (vs : Nat → Value) (w' : World), C w' → AllR R E vs w' l.length → AllS S D E vs l.length → Q .normal (putAll l 0 vs a0) w') :
    ∀ (fuel : Nat) (listed : Array Bool) (a : Act) (w : World), (List.range l.length).countP (fun i => !listed.getD i true) ≤ fuel → Inv l C R S D E a0 listed a w → wpAny P .any l.toArray Q fuel listed a w := by
  have fin : ∀ (listed : Array Bool) (a : Act) (w : World), Inv l C R S D E a0 listed a w → (∀ k, k < l.length → listed.getD k false = true) → Q .normal a w := by
    intro listed a w hi hall
    have hlive : ∀ k, k < l.length → E k = none → Live E listed k := fun k hk he => ⟨hall k hk, fun c hc => by rw [he] at hc; cases hc⟩
    have := hQ (valAt l a) w hi.cls (fun k hk he => hi.new k hk (hlive k hk he)) (fun j k hj hk ej ek hne hD => hi.sep j k hj hk (hlive j hj ej) (hlive k hk ek) hne hD)
    rwa [← frame_eq hnd hsz hi.size hi.defers hi.old] at this
  intro fuel
  induction fuel with
  | zero =>
    intro listed a w hc hi
    have hr : Region.ready .any l.toArray listed = [] := by
      apply List.eq_nil_iff_forall_not_mem.2
      intro j hj
      obtain ⟨h1, o, ho, -⟩ := mem_ready.1 hj
      have hlt : j < l.length := by
        have := (Array.getElem?_eq_some_iff.1 ho).1; simpa using this
      have : (List.range l.length).countP (fun i => !listed.getD i true) = 0 := Nat.le_zero.1 hc
      have := List.countP_eq_zero.1 this j (List.mem_range.2 hlt)
      simp [h1] at this
    exact ⟨hr, fin listed a w hi (all_listed hi.lsize hac hr)⟩
  | succ fuel ih =>
    intro listed a w hc hi
    refine ⟨fun hr => fin listed a w hi (all_listed hi.lsize hac hr), fun i hri => ?_⟩
    obtain ⟨h1, o, ho, hall⟩ := mem_ready.1 hri
    have hol : l[i]? = some o := by simpa using ho
    have hlt : i < l.length := (List.getElem?_eq_some_iff.1 hol).1
    have hif : listed.getD i false = false := by
      simp [hi.lsize, hlt] at h1 ⊢; exact h1
    have hdepL : ∀ j, Dep o j → j < l.length → Own E j i → Live E listed j := fun j hj hjl he => by
      obtain ⟨e, hem, hee⟩ := List.any_eq_true.1 hj
      simp only [Bool.and_eq_true, beq_iff_eq] at hee
      refine ⟨hee.2 ▸ hall _ (Array.mem_def.2 hem) hee.1, fun c hc' => ?_⟩
      rcases he with he | he
      · rw [he] at hc'; cases hc'
      · rw [he] at hc'; cases hc'; exact hif
    have hO := allOb_at hob hol
    rw [Nat.zero_add] at hO
    have hO' := hO a w hi.cls (fun s hs => by rw [eval_getD, eval_getD, hi.old s (fun o' ho' e => by have := List.all_eq_true.1 hs o' ho'; simp [e] at this)]) (fun j hj hl he => hi.new j hl (hdepL j hj hl he))
    have hcount : (List.range l.length).countP (fun j => !(listed.setIfInBounds i true).getD j true) ≤ fuel := by
      have := countP_less (f := fun j => !listed.getD j true) (g := fun j => !(listed.setIfInBounds i true).getD j true) (fun x hx => by
        by_cases e : i = x
        · subst e; simp [hi.lsize, hlt] at hx
        · simp [Array.getElem?_setIfInBounds_ne e] at hx ⊢; exact hx) (i := i) (by simp [h1]) (by simp [hi.lsize, hlt]) (List.mem_range.2 hlt)
      omega
    have hwas : ∀ j, j ≠ i → Live E (listed.setIfInBounds i true) j → Live E listed j ∧ E j ≠ some i := fun j hj ⟨h2, h3⟩ => by
      have hjl : listed.getD j false = true := by
        simp [Array.getElem?_setIfInBounds_ne (fun e => hj e.symm)] at h2 ⊢; exact h2
      have hne : E j ≠ some i := fun e => by
        have := h3 i e
        simp [hi.lsize, hlt] at this
      refine ⟨⟨hjl, fun c hc' => ?_⟩, hne⟩
      have := h3 c hc'
      have hci : c ≠ i := fun e => hne (e ▸ hc')
      simp [Array.getElem?_setIfInBounds_ne (fun e => hci e.symm)] at this ⊢
      exact this
    have hap : ∀ j, j < l.length → j ≠ i → Live E listed j → Apart l S D E i o (valAt l a) j (valAt l a j) := fun j hj hji hlv k hk hkl he hkj hD =>
      hi.sep k j hkl hj (hdepL k hk hkl he) hlv hkj hD
    have step : ∀ v w', C w' → Keeps l R S D E i o (valAt l a) w w' → R i (Rely.stored o v) w' → Seps l R S D E i o (valAt l a) (Rely.stored o v) w → wpAny P .any l.toArray Q fuel (listed.setIfInBounds i true) (a.put o.dst v) w' := by
      intro v w' hC hG hR hS
      have hself : valAt l (a.put o.dst v) i = Rely.stored o v := by
        unfold valAt valR Rely.stored
        rw [hol]
        cases hd : o.dst with
        | none => simp [hd]
        | some d =>
          simp only [hd]
          rw [eval_getD, put_self _ _ _ (by rw [hi.size]; exact hsz d (List.mem_filterMap.2 ⟨o, List.mem_of_getElem? hol, hd⟩))]; rfl
      have hother : ∀ k, i ≠ k → valAt l (a.put o.dst v) k = valAt l a k := fun k e => by
        unfold valAt valR
        cases hk2 : l[k]? with
        | none => rfl
        | some o2 =>
          cases hd : o2.dst with
          | none => simp [hd]
          | some d =>
            simp only [hd]
            rw [eval_getD, eval_getD, put_ne]
            intro e2
            exact e (Rely.wpAny_of_inv.nodup_at hnd hol hk2 e2 hd)
      refine ih _ _ _ hcount ⟨hC, by simp [hi.lsize], by rw [put_size, hi.size], by rw [put_defers, hi.defers], fun s hs => ?_, fun k hk hkl => ?_, fun j k hj hk hjl hkl hjk hD => ?_⟩
      · rw [put_ne _ _ _ _ (hs o (List.mem_of_getElem? hol)), hi.old s hs]
      · by_cases e : i = k
        · subst e
          rw [hself]; exact hR
        · obtain ⟨g1, g2⟩ := hwas k (fun x => e x.symm) hkl
          rw [hother k e]
          exact hG k _ hk (fun x => e x.symm) g2 (hi.new k hk g1) (hap k hk (fun x => e x.symm) g1)
      · by_cases ej : i = j
        · subst ej
          have ek : i ≠ k := hjk
          obtain ⟨g1, g2⟩ := hwas k (fun x => ek x.symm) hkl
          rw [hself, hother k ek]
          exact (hS k _ hk (fun x => ek x.symm) g2 (hi.new k hk g1) (hap k hk (fun x => ek x.symm) g1)).2 hD
        · obtain ⟨g1, g2⟩ := hwas j (fun x => ej x.symm) hjl
          by_cases ek : i = k
          · subst ek
            rw [hself, hother j ej]
            exact (hS j _ hj (fun x => ej x.symm) g2 (hi.new j hj g1) (hap j hj (fun x => ej x.symm) g1)).1 hD
          · obtain ⟨g3, g4⟩ := hwas k (fun x => ek x.symm) hkl
            rw [hother j ej, hother k ek]
            exact hi.sep j k hj hk g1 g3 hjk hD
    unfold wpOp
    simp only [ho]
    by_cases hw : Region.wanted o (yielded l.toArray a.tmps) = true
    · rw [if_pos hw]
      exact .inl (hO'.1 hw _ _ fun v w' hC hG hR hS => step v w' hC hG hR hS)
    · rw [if_neg hw]
      have hx := hO'.2 (by simpa using hw)
      exact step undef w hi.cls (fun j u _ _ _ h _ => h) (by unfold Rely.stored; cases o.dst <;> exact hx.1) (by unfold Rely.stored; cases o.dst <;> exact hx.2)

/-- **A region that draws its order**, where slots stand apart. -/
theorem wp_region_rely {id : Nat} {Q : Exit → Act → World → Prop} {w : World} (C : World → Prop) (R : Nat → Value → World → Prop) (S : Value → Value → Prop) (D : Nat → Nat → Bool) (E : Nat → Option Nat) (hm : P.follows .mixedOrders = true)
    (hnd : (l.filterMap (·.dst)).Nodup) (hsz : (l.filterMap (·.dst)).all (fun d => decide (d < a0.tmps.size)) = true)
    (hac : (l.zipIdx.all fun p => p.1.after.all fun e => !Region.binds .any e || decide (e.on < p.2)) = true)
    (hC : C { w with drawn := w.drawn + 1 }) (hob : AllOb P l C R S D E a0 0 l)
    (hQ : ∀ (vs : Nat → Value) (w' : World), C w' → AllR R E vs w' l.length → AllS S D E vs l.length → Q .normal (putAll l 0 vs a0) w') : (Code.region id l.toArray true).wp P Q a0 w := by
  refine wp_region_any hm (wpAny_of_inv hnd (fun d hd => by simpa using List.all_eq_true.1 hsz d hd) (fun k o hk e he hb => ?_) hob hQ _ _ _ _ ?_ ⟨hC, by simp, rfl, rfl, fun _ _ => rfl, fun k hk hl => ?_, fun j k hj hk hl => ?_⟩)
  · have h1 := List.all_eq_true.1 hac (o, k) (List.mem_zipIdx_iff_getElem?.2 (by simpa using hk))
    have h2 := Array.all_eq_true_iff_forall_mem.1 h1 e he
    simpa [hb] using h2
  · have := List.countP_le_length (p := fun i => !(Array.replicate l.toArray.size false).getD i true) (l := List.range l.length)
    simpa using this
  · have := hl.1; simp [hk] at this
  · have := hl.1; simp [hj] at this

/-- No other slot stands apart from this one. -/
def alone (l : List Oper) (D : Nat → Nat → Bool) (k : Nat) : Bool := (List.range l.length).all fun j => !D j k && !D k j
theorem seps_alone {k : Nat} {o : Oper} {V : Nat → Value} {v : Value} {w : World} (h : alone l D k = true) : Seps l R S D E k o V v w := fun j u hj _ _ _ _ => by
  have := List.all_eq_true.1 h j (List.mem_range.2 hj)
  simp only [Bool.and_eq_true, Bool.not_eq_true'] at this
  exact ⟨fun h => by rw [this.1] at h; (cases h), fun h => by rw [this.2] at h; (cases h)⟩
/-- One operation run: it yields v, and all the others are kept where each step below keeps them (G). -/
abbrev Runs (P : Program) (l : List Oper) (C : World → Prop) (G : World → World → Prop) (R : Nat → Value → World → Prop) (E : Nat → Option Nat) (a0 : Act) (k : Nat) (o : Oper) : Prop :=
  ∀ (a : Act) (ρ : Operand → Value), (∀ v, ρ (.const v) = v) → (∀ g, ρ (.global g) = .pointer (some ⟨g, 0, none⟩)) → (∀ f, ρ (.func f) = .func (.func f) #[] #[]) →
    ∀ (w : World), C w → (∀ s, (l.all fun o' => !(o'.dst == some s)) = true → ρ (.tmp s) = a0.eval (.tmp s)) →
    (∀ j, (o.after.toList.any fun e => Region.binds .any e && e.on == j) = true → j < l.length → Own E j k → R j (valR l ρ j) w) →
    ∀ (K : Act → World → Prop) (Q : Exit → Act → World → Prop), (∀ v w', C w' → G w w' → R k (Rely.stored o v) w' → K (a.put o.dst v) w') → o.upon P a K Q ((execOp ρ o).run P w)
abbrev Runs2 (P : Program) (l : List Oper) (C : World → Prop) (R : Nat → Value → World → Prop) (S : Value → Value → Prop) (D : Nat → Nat → Bool) (E : Nat → Option Nat) (a0 : Act) (k : Nat) (o : Oper) : Prop :=
  ∀ (a : Act) (ρ : Operand → Value), (∀ v, ρ (.const v) = v) → (∀ g, ρ (.global g) = .pointer (some ⟨g, 0, none⟩)) → (∀ f, ρ (.func f) = .func (.func f) #[] #[]) →
    ∀ (w : World), C w → (∀ s, (l.all fun o' => !(o'.dst == some s)) = true → ρ (.tmp s) = a0.eval (.tmp s)) →
    (∀ j, (o.after.toList.any fun e => Region.binds .any e && e.on == j) = true → j < l.length → Own E j k → R j (valR l ρ j) w) →
    ∀ (K : Act → World → Prop) (Q : Exit → Act → World → Prop), (∀ v w', C w' → Keeps l R S D E k o (valR l ρ) w w' → R k (Rely.stored o v) w' → Seps l R S D E k o (valR l ρ) (Rely.stored o v) w → K (a.put o.dst v) w') → o.upon P a K Q ((execOp ρ o).run P w)
theorem ob_plain {G : World → World → Prop} {k : Nat} {o : Oper} (hst : ∀ j v w w', C w → C w' → G w w' → R j v w → R j v w') (hg : o.guard = none) (hal : alone l D k = true) (h : Runs P l C G R E a0 k o) : Ob P l C R S D E a0 k o := fun a w hC hold hdep =>
  ⟨fun _ K Q hK => h a a.eval (fun _ => rfl) (fun _ => rfl) (fun _ => rfl) w hC hold hdep K Q fun v w' hC' hG hR => hK v w' hC' (fun j u _ _ _ hj _ => hst j u w w' hC hC' hG hj) hR (seps_alone hal), fun hw => by unfold Region.wanted at hw; rw [hg] at hw; cases hw⟩
theorem ob_full {k : Nat} {o : Oper} (hg : o.guard = none) (h : Runs2 P l C R S D E a0 k o) : Ob P l C R S D E a0 k o := fun a w hC hold hdep =>
  ⟨fun _ K Q hK => h a a.eval (fun _ => rfl) (fun _ => rfl) (fun _ => rfl) w hC hold hdep K Q hK, fun hw => by unfold Region.wanted at hw; rw [hg] at hw; cases hw⟩
end Rely2
end Go.Proofs.Ytiijlakilogekaa
end

section
namespace Go.Proofs.Ytiijlakilogekaa
open Go.RowKit

namespace Rely3
open Rely (valR valAt putAll frame_eq countP_less all_listed eval_getD put_ne put_self put_size put_defers yielded_of)
open Rely2 (Live Inv Dep Apart Keeps Seps Ob)
variable {P : Program} {l : List Oper} {C : World → Prop} {R : Nat → Value → World → Prop} {S : Value → Value → Prop} {D : Nat → Nat → Bool} {E : Nat → Option Nat} {a0 : Act}

/-- What the last operation owes. -/
def ObZ (P : Program) (l : List Oper) (C : World → Prop) (R : Nat → Value → World → Prop) (S : Value → Value → Prop) (D : Nat → Nat → Bool) (E : Nat → Option Nat) (a0 : Act) (Fin : (Nat → Value) → World → Prop) (z : Nat) (o : Oper) : Prop :=
  ∀ (a : Act) (w : World), C w → (∀ s, (l.all fun o' => !(o'.dst == some s)) = true → a.eval (.tmp s) = a0.eval (.tmp s)) →
    (∀ j, j < z → Rely2.Own E j z → R j (valAt l a j) w) → (∀ j k, j < z → k < z → Rely2.Own E j z → Rely2.Own E k z → j ≠ k → D j k = true → S (valAt l a j) (valAt l a k)) →
    ∀ (K : Act → World → Prop) (Q : Exit → Act → World → Prop), (∀ v w', Fin (valAt l a) w' → K (a.put o.dst v) w') → o.wp P a w K Q

theorem wpAny_done {Q : Exit → Act → World → Prop} {listed : Array Bool} {a : Act} {w : World} (hl : ∀ k, k < l.length → listed.getD k false = true) (hs : listed.size = l.length) (hQ : Q .normal a w) : ∀ fuel, wpAny P .any l.toArray Q fuel listed a w := by
  have hr : Region.ready .any l.toArray listed = [] := by
    apply List.eq_nil_iff_forall_not_mem.2
    intro j hj
    obtain ⟨h1, o, ho, -⟩ := mem_ready.1 hj
    have hlt : j < l.length := by have := (Array.getElem?_eq_some_iff.1 ho).1; simpa using this
    have h2 := hl j hlt
    simp [hs, hlt] at h1 h2
    rw [h1] at h2; cases h2
  intro fuel
  cases fuel with
  | zero => exact ⟨hr, hQ⟩
  | succ f => exact ⟨fun _ => hQ, fun i hi => by rw [hr] at hi; cases hi⟩

theorem wpAny_of_inv {Q : Exit → Act → World → Prop} {Fin : (Nat → Value) → World → Prop} {z : Nat} {oz : Oper} (hz : l.length = z + 1) (hzo : l[z]? = some oz) (hzd : oz.dst = none) (hzg : oz.guard = none)
    (hnd : (l.filterMap (·.dst)).Nodup) (hsz : ∀ d ∈ l.filterMap (·.dst), d < a0.tmps.size)
    (hac : ∀ k o, l[k]? = some o → ∀ e ∈ o.after, Region.binds .any e = true → e.on < k)
    (hlate : ∀ j, j < z → ∃ k o, j < k ∧ l[k]? = some o ∧ Dep o j)
    (hob : ∀ k o, k < z → l[k]? = some o → Ob P l C R S D E a0 k o) (hoz : ObZ P l C R S D E a0 Fin z oz)
    (hQ : ∀ (vs : Nat → Value) (w' : World), Fin vs w' → Q .normal (putAll l 0 vs a0) w') :
    ∀ (fuel : Nat) (listed : Array Bool) (a : Act) (w : World), (List.range l.length).countP (fun i => !listed.getD i true) ≤ fuel → Inv l C R S D E a0 listed a w → listed.getD z false = false →
      (∀ k o, l[k]? = some o → listed.getD k false = true → ∀ j, Dep o j → listed.getD j false = true) → wpAny P .any l.toArray Q fuel listed a w := by
  intro fuel
  induction fuel with
  | zero =>
    intro listed a w hc hi hnz _
    exfalso
    have hzl : z < l.length := by omega
    have : (List.range l.length).countP (fun i => !listed.getD i true) = 0 := Nat.le_zero.1 hc
    have := List.countP_eq_zero.1 this z (List.mem_range.2 hzl)
    simp [hi.lsize, hzl] at this hnz
    rw [this] at hnz; cases hnz
  | succ fuel ih =>
    intro listed a w hc hi hnz hclo
    have hzl : z < l.length := by omega
    refine ⟨fun hr => ?_, fun i hri => ?_⟩
    · have := all_listed hi.lsize hac hr z hzl
      rw [this] at hnz; cases hnz
    obtain ⟨h1, o, ho, hall⟩ := mem_ready.1 hri
    have hol : l[i]? = some o := by simpa using ho
    have hlt : i < l.length := (List.getElem?_eq_some_iff.1 hol).1
    have hif : listed.getD i false = false := by
      simp [hi.lsize, hlt] at h1 ⊢; exact h1
    have hdepL' : ∀ j, Dep o j → listed.getD j false = true := fun j hj => by
      obtain ⟨e, hem, hee⟩ := List.any_eq_true.1 hj
      simp only [Bool.and_eq_true, beq_iff_eq] at hee
      exact hee.2 ▸ hall _ (Array.mem_def.2 hem) hee.1
    have hdepL : ∀ j, Dep o j → j < l.length → Rely2.Own E j i → Live E listed j := fun j hj hjl he => by
      refine ⟨hdepL' j hj, fun c hc' => ?_⟩
      rcases he with he | he
      · rw [he] at hc'; cases hc'
      · rw [he] at hc'; cases hc'; exact hif
    have hset : ∀ k, listed.getD k false = true → (listed.setIfInBounds i true).getD k false = true := fun k hk => by
      by_cases e : i = k
      · subst e; simp [hi.lsize, hlt]
      · simp [Array.getElem?_setIfInBounds_ne e] at hk ⊢; exact hk
    by_cases hiz : i = z
    · subst hiz
      rw [hzo] at hol
      cases hol
      have hallz : ∀ n j, i - j ≤ n → j < i → listed.getD j false = true := by
        intro n
        induction n with
        | zero => intro j h1 h2; omega
        | succ n ihn =>
          intro j h1 h2
          obtain ⟨k, o2, hjk, hk2, hd⟩ := hlate j h2
          have hkl : k < l.length := (List.getElem?_eq_some_iff.1 hk2).1
          by_cases e : k = i
          · subst e
            rw [hzo] at hk2; cases hk2
            exact hdepL' j hd
          · exact hclo k o2 hk2 (ihn k (by omega) (by omega)) j hd
      have hlive : ∀ j, j < i → Rely2.Own E j i → Live E listed j := fun j hj he => ⟨hallz _ j (Nat.le_refl _) hj, fun c hc' => by
        rcases he with he | he
        · rw [he] at hc'; cases hc'
        · rw [he] at hc'; cases hc'; exact hif⟩
      have hO := hoz a w hi.cls (fun s hs => by rw [eval_getD, eval_getD, hi.old s (fun o' ho' e => by have := List.all_eq_true.1 hs o' ho'; simp [e] at this)]) (fun j hj he => hi.new j (by omega) (hlive j hj he)) (fun j k hj hk ej ek hne hD => hi.sep j k (by omega) (by omega) (hlive j hj ej) (hlive k hk ek) hne hD)
      unfold wpOp
      simp only [ho]
      have hw : Region.wanted oz (yielded l.toArray a.tmps) = true := by unfold Region.wanted; rw [hzg]
      rw [if_pos hw]
      refine .inl (hO _ _ fun v w' hF => ?_)
      rw [hzd]
      have hput : a.put none v = a := rfl
      rw [hput]
      have hfr := hQ (valAt l a) w' hF
      rw [← frame_eq hnd hsz hi.size hi.defers hi.old] at hfr
      refine wpAny_done (fun k hk => ?_) (by simp [hi.lsize]) hfr _
      by_cases e : k = i
      · subst e; simp [hi.lsize, hlt]
      · exact hset k (hallz _ k (Nat.le_refl _) (by omega))
    have hO' := hob i o (by omega) hol a w hi.cls (fun s hs => by rw [eval_getD, eval_getD, hi.old s (fun o' ho' e => by have := List.all_eq_true.1 hs o' ho'; simp [e] at this)]) (fun j hj hl he => hi.new j hl (hdepL j hj hl he))
    have hcount : (List.range l.length).countP (fun j => !(listed.setIfInBounds i true).getD j true) ≤ fuel := by
      have := countP_less (f := fun j => !listed.getD j true) (g := fun j => !(listed.setIfInBounds i true).getD j true) (fun x hx => by
        by_cases e : i = x
        · subst e; simp [hi.lsize, hlt] at hx
        · simp [Array.getElem?_setIfInBounds_ne e] at hx ⊢; exact hx) (i := i) (by simp [h1]) (by simp [hi.lsize, hlt]) (List.mem_range.2 hlt)
      omega
    have hwas : ∀ j, j ≠ i → Live E (listed.setIfInBounds i true) j → Live E listed j ∧ E j ≠ some i := fun j hj ⟨h2, h3⟩ => by
      have hjl : listed.getD j false = true := by
        simp [Array.getElem?_setIfInBounds_ne (fun e => hj e.symm)] at h2 ⊢; exact h2
      have hne : E j ≠ some i := fun e => by
        have := h3 i e
        simp [hi.lsize, hlt] at this
      refine ⟨⟨hjl, fun c hc' => ?_⟩, hne⟩
      have := h3 c hc'
      have hci : c ≠ i := fun e => hne (e ▸ hc')
      simp [Array.getElem?_setIfInBounds_ne (fun e => hci e.symm)] at this ⊢
      exact this
    have hap : ∀ j, j < l.length → j ≠ i → Live E listed j → Apart l S D E i o (valAt l a) j (valAt l a j) := fun j hj hji hlv k hk hkl he hkj hD =>
      hi.sep k j hkl hj (hdepL k hk hkl he) hlv hkj hD
    have hnz' : (listed.setIfInBounds i true).getD z false = false := by
      simp [Array.getElem?_setIfInBounds_ne hiz] at hnz ⊢; exact hnz
    have hclo' : ∀ k o, l[k]? = some o → (listed.setIfInBounds i true).getD k false = true → ∀ j, Dep o j → (listed.setIfInBounds i true).getD j false = true := fun k o2 hk2 hkl j hj => by
      by_cases e : i = k
      · subst e
        rw [hol] at hk2; cases hk2
        exact hset j (hdepL' j hj)
      · refine hset j (hclo k o2 hk2 ?_ j hj)
        simp [Array.getElem?_setIfInBounds_ne e] at hkl ⊢; exact hkl
    have step : ∀ v w', C w' → Keeps l R S D E i o (valAt l a) w w' → R i (Rely.stored o v) w' → Seps l R S D E i o (valAt l a) (Rely.stored o v) w → wpAny P .any l.toArray Q fuel (listed.setIfInBounds i true) (a.put o.dst v) w' := by
      intro v w' hC hG hR hS
      have hself : valAt l (a.put o.dst v) i = Rely.stored o v := by
        unfold valAt valR Rely.stored
        rw [hol]
        cases hd : o.dst with
        | none => simp [hd]
        | some d =>
          simp only [hd]
          rw [eval_getD, put_self _ _ _ (by rw [hi.size]; exact hsz d (List.mem_filterMap.2 ⟨o, List.mem_of_getElem? hol, hd⟩))]; rfl
      have hother : ∀ k, i ≠ k → valAt l (a.put o.dst v) k = valAt l a k := fun k e => by
        unfold valAt valR
        cases hk2 : l[k]? with
        | none => rfl
        | some o2 =>
          cases hd : o2.dst with
          | none => simp [hd]
          | some d =>
            simp only [hd]
            rw [eval_getD, eval_getD, put_ne]
            intro e2
            exact e (Rely.wpAny_of_inv.nodup_at hnd hol hk2 e2 hd)
      refine ih _ _ _ hcount ⟨hC, by simp [hi.lsize], by rw [put_size, hi.size], by rw [put_defers, hi.defers], fun s hs => ?_, fun k hk hkl => ?_, fun j k hj hk hjl hkl hjk hD => ?_⟩ hnz' hclo'
      · rw [put_ne _ _ _ _ (hs o (List.mem_of_getElem? hol)), hi.old s hs]
      · by_cases e : i = k
        · subst e
          rw [hself]; exact hR
        · obtain ⟨g1, g2⟩ := hwas k (fun x => e x.symm) hkl
          rw [hother k e]
          exact hG k _ hk (fun x => e x.symm) g2 (hi.new k hk g1) (hap k hk (fun x => e x.symm) g1)
      · by_cases ej : i = j
        · subst ej
          have ek : i ≠ k := hjk
          obtain ⟨g1, g2⟩ := hwas k (fun x => ek x.symm) hkl
          rw [hself, hother k ek]
          exact (hS k _ hk (fun x => ek x.symm) g2 (hi.new k hk g1) (hap k hk (fun x => ek x.symm) g1)).2 hD
        · obtain ⟨g1, g2⟩ := hwas j (fun x => ej x.symm) hjl
          by_cases ek : i = k
          · subst ek
            rw [hself, hother j ej]
            exact (hS j _ hj (fun x => ej x.symm) g2 (hi.new j hj g1) (hap j hj (fun x => ej x.symm) g1)).1 hD
          · obtain ⟨g3, g4⟩ := hwas k (fun x => ek x.symm) hkl
            rw [hother j ej, hother k ek]
            exact hi.sep j k hj hk g1 g3 hjk hD
    unfold wpOp
    simp only [ho]
    by_cases hw : Region.wanted o (yielded l.toArray a.tmps) = true
    · rw [if_pos hw]
      exact .inl (hO'.1 hw _ _ fun v w' hC hG hR hS => step v w' hC hG hR hS)
    · rw [if_neg hw]
      have hx := hO'.2 (by simpa using hw)
      exact step undef w hi.cls (fun j u _ _ _ h _ => h) (by unfold Rely.stored; cases o.dst <;> exact hx.1) (by unfold Rely.stored; cases o.dst <;> exact hx.2)

/-- Each operation but the last is another's forerunner. -/
def late (l : List Oper) (z : Nat) : Bool := (List.range z).all fun j => l.zipIdx.any fun p => decide (j < p.2) && p.1.after.toList.any fun e => Region.binds .any e && e.on == j
theorem late_at {z : Nat} (h : late l z = true) : ∀ j, j < z → ∃ k o, j < k ∧ l[k]? = some o ∧ Dep o j := fun j hj => by
  have h1 := List.all_eq_true.1 h j (List.mem_range.2 hj)
  obtain ⟨⟨o, k⟩, hp, h2⟩ := List.any_eq_true.1 h1
  simp only [Bool.and_eq_true, decide_eq_true_eq] at h2
  exact ⟨k, o, h2.1, (List.mem_zipIdx_iff_getElem?.1 hp), h2.2⟩

/-- **A region that draws its order**, its last operation apart. -/
theorem wp_region_rely {id : Nat} {Q : Exit → Act → World → Prop} {w : World} (C : World → Prop) (R : Nat → Value → World → Prop) (S : Value → Value → Prop) (D : Nat → Nat → Bool) (E : Nat → Option Nat) (Fin : (Nat → Value) → World → Prop) (z : Nat) (oz : Oper) (hm : P.follows .mixedOrders = true)
    (hz : l.length = z + 1) (hzo : l[z]? = some oz) (hzd : oz.dst = none) (hzg : oz.guard = none)
    (hnd : (l.filterMap (·.dst)).Nodup) (hsz : (l.filterMap (·.dst)).all (fun d => decide (d < a0.tmps.size)) = true)
    (hac : (l.zipIdx.all fun p => p.1.after.all fun e => !Region.binds .any e || decide (e.on < p.2)) = true) (hlate : late l z = true)
    (hC : C { w with drawn := w.drawn + 1 }) (hob : ∀ k o, k < z → l[k]? = some o → Ob P l C R S D E a0 k o) (hoz : ObZ P l C R S D E a0 Fin z oz)
    (hQ : ∀ (vs : Nat → Value) (w' : World), Fin vs w' → Q .normal (putAll l 0 vs a0) w') : (Code.region id l.toArray true).wp P Q a0 w := by
  refine wp_region_any hm (wpAny_of_inv hz hzo hzd hzg hnd (fun d hd => by simpa using List.all_eq_true.1 hsz d hd) (fun k o hk e he hb => ?_) (late_at hlate) hob hoz hQ _ _ _ _ ?_ ⟨hC, by simp, rfl, rfl, fun _ _ => rfl, fun k hk hl => ?_, fun j k hj hk hl => ?_⟩ (by simp [hz]) (fun k o hk hl => ?_))
  · have h1 := List.all_eq_true.1 hac (o, k) (List.mem_zipIdx_iff_getElem?.2 (by simpa using hk))
    have h2 := Array.all_eq_true_iff_forall_mem.1 h1 e he
    simpa [hb] using h2
  · have := List.countP_le_length (p := fun i => !(Array.replicate l.toArray.size false).getD i true) (l := List.range l.length)
    simpa using this
  · have := hl.1; simp [hk] at this
  · have := hl.1; simp [hj] at this
  · have hkl : k < l.length := (List.getElem?_eq_some_iff.1 hk).1
    simp [hkl] at hl
end Rely3
end Go.Proofs.Ytiijlakilogekaa
end

section
namespace Go.Proofs.Ytiijlakilogekaa
open Go.RowKit

namespace RApp
def One (v : Value) (b : Nat) : Prop := v.ownBlock = some b ∨ ∃ o, v = .pointer (some ⟨b, o, none⟩)
def Ft (v : Value) (b : Nat) : Prop := One v b ∨ ∃ x y, v = .agg #[x, y] ∧ (One x b ∨ One y b)
def Ap (u v : Value) : Prop := ∀ b, Ft u b → ¬ Ft v b
abbrev OwnB (w : World) (base : Nat) (v : Value) (l : List Int) : Prop := w.ownsRow base 5 1 v l.length (l.map (Value.int .u8))
theorem OwnB.low {w : World} {base : Nat} {v : Value} {l : List Int} (h : OwnB w base v l) : ∀ b, One v b → base ≤ b ∧ b < w.heap.size := by
  intro b hb
  rcases h.2 with ⟨rfl, _⟩ | ⟨g, cap, cur, rfl, h1, h2, _⟩
  · rcases hb with hb | ⟨o, hb⟩ <;> cases hb
  · rcases hb with hb | ⟨o, hb⟩
    · cases hb; exact ⟨h1, (Array.getElem?_eq_some_iff.1 h2).1⟩
    · cases hb
theorem OwnB.foot {w : World} {base : Nat} {v : Value} {l : List Int} (h : OwnB w base v l) : ∀ b, Ft v b → One v b := by
  intro b hb
  rcases hb with hb | ⟨x, y, rfl, _⟩
  · exact hb
  · rcases h.2 with ⟨e, _⟩ | ⟨g, cap, cur, e, _⟩ <;> cases e
theorem OwnB.own {w : World} {base : Nat} {v : Value} {l : List Int} (h : OwnB w base v l) : ∀ b, One v b → v.ownBlock = some b := by
  intro b hb
  rcases hb with hb | ⟨o, rfl⟩
  · exact hb
  · rcases h.2 with ⟨e, _⟩ | ⟨g, cap, cur, e, _⟩ <;> cases e
theorem OwnB.keep {w w' : World} {base : Nat} {v : Value} {l : List Int} (h : OwnB w base v l) (hk : ∀ b, One v b → w'.heap[b]? = w.heap[b]?) : OwnB w' base v l := by
  refine ⟨h.1, ?_⟩
  rcases h.2 with h2 | ⟨g, cap, cur, rfl, h1, h2, h3⟩
  · exact .inl h2
  · exact .inr ⟨g, cap, cur, rfl, h1, (hk g (.inl rfl)).trans h2, h3⟩

/-- What is known of each slot. -/
def Cont (base B : Nat) (v1 v2 vl : Value) (S O F : List Int) (k : Nat) (v : Value) (w : World) : Prop :=
  match k with
  | 0 => ∃ g, v = .slice (some ⟨g, 0, none⟩) 0 0 ∧ Bare w g 5
  | 1 => v = .pointer (some ⟨B, 0, none⟩)
  | 2 => v = v1
  | 3 => OwnB w base v S
  | 4 => ∃ g, v = .slice (some ⟨g, 0, none⟩) 0 0 ∧ Bare w g 5
  | 5 => v = .pointer (some ⟨B, 1, none⟩)
  | 6 => v = v2
  | 7 => OwnB w base v O
  | 8 => v = vl
  | 9 => OwnB w base v F
  | 10 => OwnB w base v (O ++ F)
  | 11 => ∃ x y, v = .agg #[x, y] ∧ OwnB w base x S ∧ OwnB w base y (O ++ F)
  | 12 => ∃ g, v = .pointer (some ⟨g, 0, none⟩) ∧ Duo w g 24 (.slice none 0 0) (.slice none 0 0)
  | _ => True
def hp (k : Nat) : Bool := [0, 3, 4, 7, 9, 10, 11, 12].contains k
def RR (base B : Nat) (v1 v2 vl : Value) (S O F : List Int) (k : Nat) (v : Value) (w : World) : Prop := (hp k = true → ∀ b, Ft v b → base ≤ b ∧ b < w.heap.size) ∧ Cont base B v1 v2 vl S O F k v w
def DD (j k : Nat) : Bool := hp j && hp k
def EE (k : Nat) : Option Nat := match k with
  | 0 => some 3
  | 3 => some 11
  | 4 => some 7
  | 7 => some 10
  | 9 => some 10
  | 10 => some 11
  | 11 => some 13
  | 12 => some 13
  | _ => none
section
variable {base B : Nat} {v1 v2 vl : Value} {S O F : List Int}
theorem hp_cases {k : Nat} (h : hp k = true) : k = 0 ∨ k = 3 ∨ k = 4 ∨ k = 7 ∨ k = 9 ∨ k = 10 ∨ k = 11 ∨ k = 12 := by simpa [hp] using h
theorem RR.keep {k : Nat} {v : Value} {w w' : World} (h : RR base B v1 v2 vl S O F k v w) (hk : hp k = true → ∀ b, Ft v b → b < w.heap.size → w'.heap[b]? = w.heap[b]?) (hs : w.heap.size ≤ w'.heap.size) : RR base B v1 v2 vl S O F k v w' := by
  by_cases hpk : hp k = true
  · have hk' : ∀ b, Ft v b → w'.heap[b]? = w.heap[b]? := fun b hb => hk hpk b hb (h.1 hpk b hb).2
    refine ⟨fun _ b hb => ⟨(h.1 hpk b hb).1, Nat.lt_of_lt_of_le (h.1 hpk b hb).2 hs⟩, ?_⟩
    have hc := h.2
    rcases hp_cases hpk with rfl | rfl | rfl | rfl | rfl | rfl | rfl | rfl
    · obtain ⟨g, e, hb⟩ := hc; exact ⟨g, e, (hk' g (.inl (.inl (by rw [e]; rfl)))).trans hb⟩
    · exact OwnB.keep hc fun b hb => hk' b (.inl hb)
    · obtain ⟨g, e, hb⟩ := hc; exact ⟨g, e, (hk' g (.inl (.inl (by rw [e]; rfl)))).trans hb⟩
    · exact OwnB.keep hc fun b hb => hk' b (.inl hb)
    · exact OwnB.keep hc fun b hb => hk' b (.inl hb)
    · exact OwnB.keep hc fun b hb => hk' b (.inl hb)
    · obtain ⟨x, y, e, ox, oy⟩ := hc
      exact ⟨x, y, e, ox.keep fun b hb => hk' b (.inr ⟨x, y, e, .inl hb⟩), oy.keep fun b hb => hk' b (.inr ⟨x, y, e, .inr hb⟩)⟩
    · obtain ⟨g, e, hd⟩ := hc; exact ⟨g, e, (hk' g (.inl (.inr ⟨0, e⟩))).trans hd⟩
  · refine ⟨fun h => absurd h hpk, ?_⟩
    have hc := h.2
    match k, hpk, hc with
    | 0, h, _ => exact absurd rfl h
    | 1, _, hc => exact hc
    | 2, _, hc => exact hc
    | 3, h, _ => exact absurd rfl h
    | 4, h, _ => exact absurd rfl h
    | 5, _, hc => exact hc
    | 6, _, hc => exact hc
    | 7, h, _ => exact absurd rfl h
    | 8, _, hc => exact hc
    | 9, h, _ => exact absurd rfl h
    | 10, h, _ => exact absurd rfl h
    | 11, h, _ => exact absurd rfl h
    | 12, h, _ => exact absurd rfl h
    | n + 13, _, _ => trivial
/-- What a step leaves and how its slot stands to the others. -/
theorem heap_step {l : List Oper} {k : Nat} {o : Oper} {V : Nat → Value} {v' : Value} {w w' : World} (_hk : hp k = true)
    (hlow : ∀ b, Ft v' b → w.heap.size ≤ b ∨ ∃ i, Rely2.Dep o i ∧ i < l.length ∧ EE i = some k ∧ hp i = true ∧ Ft (V i) b)
    (hsame : ∀ b, b < w.heap.size → (∀ i, Rely2.Dep o i → i < l.length → EE i = some k → hp i = true → ¬ Ft (V i) b) → w'.heap[b]? = w.heap[b]?) (hsz : w.heap.size ≤ w'.heap.size) :
    Rely2.Keeps l (RR base B v1 v2 vl S O F) Ap DD EE k o V w w' ∧ Rely2.Seps l (RR base B v1 v2 vl S O F) Ap DD EE k o V v' w := by
  constructor
  · intro j u hj hjk hE hR hA
    exact hR.keep (fun hpj b hb hlt => hsame b hlt fun i h1 h2 h3 h4 h5 => hA i h1 h2 (.inr h3) (fun e => hE (e ▸ h3)) (by simp [DD, h4, hpj]) b h5 hb) hsz
  · intro j u hj hjk hE hR hA
    have core : hp j = true → ∀ b, Ft u b → Ft v' b → False := fun hpj b hb hv => by
      rcases hlow b hv with h | ⟨i, h1, h2, h3, h4, h5⟩
      · have := (hR.1 hpj b hb).2; omega
      · exact hA i h1 h2 (.inr h3) (fun e => hE (e ▸ h3)) (by simp [DD, h4, hpj]) b h5 hb
    constructor
    · intro hD b hb hv
      simp only [DD, Bool.and_eq_true] at hD
      exact core hD.1 b hb hv
    · intro hD b hv hb
      simp only [DD, Bool.and_eq_true] at hD
      exact core hD.2 b hb hv
theorem fresh_step {l : List Oper} {k : Nat} {o : Oper} {V : Nat → Value} {v' : Value} {w w' : World} (hk : hp k = true) (hlow : ∀ b, Ft v' b → w.heap.size ≤ b) (hb : Below w.heap.size w w') :
    Rely2.Keeps l (RR base B v1 v2 vl S O F) Ap DD EE k o V w w' ∧ Rely2.Seps l (RR base B v1 v2 vl S O F) Ap DD EE k o V v' w :=
  heap_step hk (fun b h => .inl (hlow b h)) (fun b hlt _ => hb.block b hlt) hb.size
theorem OwnB.all {w : World} {v : Value} {l : List Int} (h : OwnB w base v l) : ∀ b, Ft v b → base ≤ b ∧ b < w.heap.size := fun b hb => h.low b (h.foot b hb)
theorem OwnB.at {w : World} {v : Value} {l : List Int} (h : OwnB w base v l) : ∀ b, Ft v b → v.ownBlock = some b := fun b hb => h.own b (h.foot b hb)
theorem ft_slice {g o n c b : Nat} (h : Ft (.slice (some ⟨g, o, none⟩) n c) b) : g = b := by
  rcases h with (h | ⟨_, h⟩) | ⟨_, _, h, _⟩
  · cases h; rfl
  · cases h
  · cases h
theorem ft_ptr {g o b : Nat} (h : Ft (.pointer (some ⟨g, o, none⟩)) b) : g = b := by
  rcases h with (h | ⟨_, h⟩) | ⟨_, _, h, _⟩
  · cases h
  · cases h; rfl
  · cases h
theorem ft_agg {x y : Value} {b : Nat} (h : Ft (.agg #[x, y]) b) : Ft x b ∨ Ft y b := by
  rcases h with (h | ⟨_, h⟩) | ⟨_, _, h, h2⟩
  · cases h
  · cases h
  · cases h
    rcases h2 with h2 | h2
    · exact .inl (.inl h2)
    · exact .inr (.inl h2)
end
theorem hob_of {P : Program} {l : List Oper} {C : World → Prop} {R : Nat → Value → World → Prop} {S : Value → Value → Prop} {D : Nat → Nat → Bool} {E : Nat → Option Nat} {a0 : Act} {z : Nat} (h : Rely2.AllOb P l C R S D E a0 0 (l.take z)) : ∀ k o, k < z → l[k]? = some o → Rely2.Ob P l C R S D E a0 k o := fun k o hk ho => by
  have := Rely2.allOb_at h (j := k) (by rw [List.getElem?_take, if_pos hk]; exact ho)
  simpa using this
end RApp
end Go.Proofs.Ytiijlakilogekaa
end

section
namespace Go.Proofs.Ytiijlakilogekaa
open Go.RowKit RApp

set_option maxRecDepth 100000 in
set_option maxHeartbeats 8000000 in
theorem RAppend_ok (v1 v2 v : Value) (S O l' : List Int) (w : World) (h1 : Row .u8 w v1 S) (h2 : Row .u8 w v2 O) (h : Row .u8 w v l') (n1 : S.length ≤ 20000) (n2 : O.length ≤ 20000) (nl : l'.length ≤ 4096) (hg : Wm.good (S ++ O) = (S ++ O).length) :
    Calls Try.prog 7 #[.agg #[v1, v2], v] w fun e w' => ∃ x1 x2, e = .returned (.tuple #[.agg #[x1, x2], .int .i64 0]) ∧ Row .u8 w' x1 S ∧ Row .u8 w' x2 (O ++ Wm.frame l') ∧ Below w.heap.size w w' := by
  obtain ⟨j0, gi, gz0, gz1, gz2⟩ := info_parts info_byte20
  have hbS := h1.all_byte; have hbO := h2.all_byte; have hbl := h.all_byte
  obtain ⟨a1, c1, rfl⟩ := h1.shape S.length rfl
  obtain ⟨a2, c2, rfl⟩ := h2.shape O.length rfl
  obtain ⟨al, cl, rfl⟩ := h.shape l'.length rfl
  obtain ⟨B, hB⟩ : ∃ B, w.heap.size = B := ⟨_, rfl⟩
  have dS := (Duo.new w 24 (.slice a1 S.length c1) (.slice a2 O.length c2)).alloc (.cells #[.slice none 0 0, .slice none 0 0] 24)
  have dX := Duo.new (w.alloc (.cells #[.slice a1 S.length c1, .slice a2 O.length c2] 24)) 24 (.slice none 0 0) (.slice none 0 0)
  have hbl0 := bel_alloc (bel_alloc (Below.refl w.heap.size w) (.cells #[.slice a1 S.length c1, .slice a2 O.length c2] 24)) (.cells #[.slice none 0 0, .slice none 0 0] 24)
  have r1 := (h1.alloc (.cells #[.slice a1 S.length c1, .slice a2 O.length c2] 24)).alloc (.cells #[.slice none 0 0, .slice none 0 0] 24)
  have r2 := (h2.alloc (.cells #[.slice a1 S.length c1, .slice a2 O.length c2] 24)).alloc (.cells #[.slice none 0 0, .slice none 0 0] 24)
  have rl := (h.alloc (.cells #[.slice a1 S.length c1, .slice a2 O.length c2] 24)).alloc (.cells #[.slice none 0 0, .slice none 0 0] 24)
  rw [World.size_alloc] at dX
  rw [hB] at dS dX
  have HBS := Lib.hid hbS; have HBO := Lib.hid hbO; have HBL := Lib.hid hbl; have HG := Lib.hid hg
  clear hbS hbO hbl hg h1 h2 h
  obtain ⟨F, hF⟩ : ∃ F, Wm.frame l' = F := ⟨_, rfl⟩
  have hFl : F.length ≤ 5000 := by rw [← hF, Wm.frame_length]; omega
  have hFb : ∀ x ∈ F, byte x := by rw [← hF]; exact Wm.frame_byte l' HBL.out
  rw [hF]
  have hFp : 0 < F.length := by rw [← hF, Wm.frame_length]; omega
  have HFp := Lib.hid hFp
  clear hFp
  have HF := Lib.hid hF; have HFl := Lib.hid hFl; have HFb := Lib.hid hFb
  clear hF hFl hFb
  go_enter Try.func7, Try.ntmps7
  have s0 := dS.cell0; have s1 := dS.cell1
  go_wp2_with fail
  (try rw [hB])
  refine (RCheck_ok _ _ S O _ r1 r2 (by omega)).mono ?_; rintro e w1 ⟨rfl, hb1⟩
  replace hbl0 := bel_stp hbl0 hb1
  replace dS := dS.stp hb1
  replace dX := dX.stp hb1
  replace r1 := r1.stp hb1
  replace r2 := r2.stp hb1
  replace rl := rl.stp hb1
  clear hb1 s0 s1
  have s0 := dS.cell0; have s1 := dS.cell1
  have nl' : ¬ (4096 : Int) < (l'.length : Int) := by omega
  go_wp2_with fail
  refine (RRead_any _ _ S O _ r1 r2 (by omega) (by omega)).mono ?_; rintro e V ⟨rr, rfl, -, hb1⟩
  rw [HG.out]
  replace hbl0 := bel_stp hbl0 hb1
  replace dS := dS.stp hb1
  replace dX := dX.stp hb1
  replace r1 := r1.stp hb1
  replace r2 := r2.stp hb1
  replace rl := rl.stp hb1
  clear hb1 s0 s1
  have s0 := dS.cell0; have s1 := dS.cell1
  have hsum : ((S ++ O).length : Int) = (S.length : Int) + O.length := by simp
  have e1 : IntKind.i64.wrap ((S.length : Int) + O.length) = ((S ++ O).length : Int) := by rw [IntWalk.i64_in _ (by omega)]; omega
  have HV := Lib.hid hbl0
  obtain ⟨T, hT⟩ : ∃ T, (S ++ O).length = T := ⟨_, rfl⟩
  rw [hT] at e1 ⊢
  clear hsum hT hbl0
  go_upto_region 8 with fail
  clear s0 s1 e1 nl'
  have hBV : B < V.heap.size := dS.lt
  have hcS : ∀ w', Below V.heap.size V w' → w'.cell? ⟨B, 0, none⟩ = some (.slice a1 S.length c1) ∧ w'.cell? ⟨B, 1, none⟩ = some (.slice a2 O.length c2) := fun w' h => ⟨(h.cell (p := ⟨B, 0, none⟩) hBV).trans dS.cell0, (h.cell (p := ⟨B, 1, none⟩) hBV).trans dS.cell1⟩
  have hkp : ∀ {k : Nat} {v : Value} {w w' : World}, Below w.heap.size w w' → RR V.heap.size B (.slice a1 S.length c1) (.slice a2 O.length c2) (.slice al l'.length cl) S O F k v w → RR V.heap.size B (.slice a1 S.length c1) (.slice a2 O.length c2) (.slice al l'.length cl) S O F k v w' := fun hb h => h.keep (fun _ b _ hlt => hb.block b hlt) hb.size
  refine Rely3.wp_region_rely (fun w => Below V.heap.size V w) (RR V.heap.size B (.slice a1 S.length c1) (.slice a2 O.length c2) (.slice al l'.length cl) S O F) Ap DD EE (fun vs w' => Below V.heap.size V w' ∧ ∃ g x y, vs 12 = .pointer (some ⟨g, 0, none⟩) ∧ V.heap.size ≤ g ∧ Duo w' g 24 x y ∧ OwnB w' V.heap.size x S ∧ OwnB w' V.heap.size y (O ++ F)) 13 _ (by kernel_rfl) rfl rfl rfl rfl (by decide) (by kernel_rfl) (by kernel_rfl) (by kernel_rfl) ?_ ?_ ?_ ?_
  · exact bel_drew (Below.refl _ _)
  · refine RApp.hob_of ?_
    refine Rely2.allOb_cons (Rely2.ob_full rfl (fun ac ρ hc hg hf w hC hold dep K Q hK => ?_)) ?_
    · have f := fun (l : List Oper) (o : Oper) (VV : Nat → Value) => fresh_step (base := V.heap.size) (B := B) (v1 := .slice a1 S.length c1) (v2 := .slice a2 O.length c2) (vl := .slice al l'.length cl) (S := S) (O := O) (F := F) (l := l) (k := 0) (o := o) (V := VV) (v' := .slice (some ⟨w.heap.size, 0, none⟩) 0 0) (w := w) (w' := w.alloc (.cells #[] 5)) rfl (fun b hb => Nat.le_of_eq (ft_slice hb)) ((Below.refl _ _).alloc (Nat.le_refl _) _)
      simp [go_sem]
      exact hK _ _ (hC.alloc hC.size _) (f _ _ _).1 ⟨fun _ b hb => (by obtain rfl := ft_slice hb; exact ⟨hC.size, by simp⟩), _, rfl, Bare.new _ _⟩ (f _ _ _).2
    refine Rely2.allOb_cons (Rely2.ob_plain (G := fun w w' => Below w.heap.size w w') (fun j v w w' _ _ hb h => hkp hb h) rfl (by decide) (fun ac ρ hc hg hf w hC hold dep K Q hK => ?_)) ?_
    · have e2 : ρ (.tmp 2) = .pointer (some ⟨B, 0, none⟩) := hold 2 (by decide)
      simp [go_sem, e2]
      exact hK _ _ hC (Below.refl _ _) ⟨(fun h => by cases h), rfl⟩
    refine Rely2.allOb_cons (Rely2.ob_plain (G := fun w w' => Below w.heap.size w w') (fun j v w w' _ _ hb h => hkp hb h) rfl (by decide) (fun ac ρ hc hg hf w hC hold dep K Q hK => ?_)) ?_
    · have e9 : ρ (.tmp 33) = .pointer (some ⟨B, 0, none⟩) := (dep 1 (by decide) (by decide) (.inl rfl)).2
      simp [go_sem, e9, (hcS _ hC).1]
      exact hK _ _ hC (Below.refl _ _) ⟨(fun h => by cases h), rfl⟩
    refine Rely2.allOb_cons (fun ac w hC hold dep => ⟨fun _ K Q hK => ?_, fun hw => by unfold Region.wanted at hw; cases hw⟩) ?_
    · obtain ⟨l0, g, e0, hb0⟩ := dep 0 (by decide) (by decide) (.inr rfl)
      have e1 : ac.eval (.tmp 34) = .slice a1 S.length c1 := (dep 2 (by decide) (by decide) (.inl rfl)).2
      have hg0 : Ft (.slice (some ⟨g, 0, none⟩) 0 0) g := .inl (.inl rfl)
      have hgl := l0 rfl g (by have h := hg0; rw [← e0] at h; exact h)
      refine wp_append_bare (.tmp 32) (.tmp 34) 22 rfl 5 j0 (.int .u8 0) Try.underlying22 gi gz0 gz1 gz2 rfl V.heap.size g e0 hb0 hgl.1 _ S (r1.below hC) e1 (by omega) ?_
      intro v' w' ho hbl hat
      have hlow : ∀ b, Ft v' b → w.heap.size ≤ b ∨ b = g := fun b hb => by
        have hx := OwnB.at ho b hb
        rcases hat with h | h
        · right; rw [hx] at h; exact Option.some.inj h
        · left; rw [hx] at h; exact Nat.le_of_eq (Option.some.inj h).symm
      have hst := fun (l : List Oper) (o : Oper) (VV : Nat → Value) (hd : Rely2.Dep o 0) (hl : 0 < l.length) (hv : Ft (VV 0) g) => heap_step (base := V.heap.size) (B := B) (v1 := .slice a1 S.length c1) (v2 := .slice a2 O.length c2) (vl := .slice al l'.length cl) (S := S) (O := O) (F := F) (l := l) (k := 3) (o := o) (V := VV) (v' := v') (w := w) (w' := w') rfl (fun b hb => (hlow b hb).imp id fun e => ⟨0, hd, hl, rfl, rfl, by rw [e]; exact hv⟩) (fun b hlt _ => hbl.block b hlt) hbl.size
      exact hK v' w' (hC.trans (hbl.mono hC.size)) (hst _ _ _ (by decide) (by decide) (by have h := hg0; rw [← e0] at h; exact h)).1 ⟨fun _ b hb => OwnB.all ho b hb, ho⟩ (hst _ _ _ (by decide) (by decide) (by have h := hg0; rw [← e0] at h; exact h)).2
    refine Rely2.allOb_cons (Rely2.ob_full rfl (fun ac ρ hc hg hf w hC hold dep K Q hK => ?_)) ?_
    · have f := fun (l : List Oper) (o : Oper) (VV : Nat → Value) => fresh_step (base := V.heap.size) (B := B) (v1 := .slice a1 S.length c1) (v2 := .slice a2 O.length c2) (vl := .slice al l'.length cl) (S := S) (O := O) (F := F) (l := l) (k := 4) (o := o) (V := VV) (v' := .slice (some ⟨w.heap.size, 0, none⟩) 0 0) (w := w) (w' := w.alloc (.cells #[] 5)) rfl (fun b hb => Nat.le_of_eq (ft_slice hb)) ((Below.refl _ _).alloc (Nat.le_refl _) _)
      simp [go_sem]
      exact hK _ _ (hC.alloc hC.size _) (f _ _ _).1 ⟨fun _ b hb => (by obtain rfl := ft_slice hb; exact ⟨hC.size, by simp⟩), _, rfl, Bare.new _ _⟩ (f _ _ _).2
    refine Rely2.allOb_cons (Rely2.ob_plain (G := fun w w' => Below w.heap.size w w') (fun j v w w' _ _ hb h => hkp hb h) rfl (by decide) (fun ac ρ hc hg hf w hC hold dep K Q hK => ?_)) ?_
    · have e2 : ρ (.tmp 2) = .pointer (some ⟨B, 0, none⟩) := hold 2 (by decide)
      simp [go_sem, e2]
      exact hK _ _ hC (Below.refl _ _) ⟨(fun h => by cases h), rfl⟩
    refine Rely2.allOb_cons (Rely2.ob_plain (G := fun w w' => Below w.heap.size w w') (fun j v w w' _ _ hb h => hkp hb h) rfl (by decide) (fun ac ρ hc hg hf w hC hold dep K Q hK => ?_)) ?_
    · have e9 : ρ (.tmp 37) = .pointer (some ⟨B, 1, none⟩) := (dep 5 (by decide) (by decide) (.inl rfl)).2
      simp [go_sem, e9, (hcS _ hC).2]
      exact hK _ _ hC (Below.refl _ _) ⟨(fun h => by cases h), rfl⟩
    refine Rely2.allOb_cons (fun ac w hC hold dep => ⟨fun _ K Q hK => ?_, fun hw => by unfold Region.wanted at hw; cases hw⟩) ?_
    · obtain ⟨l0, g, e0, hb0⟩ := dep 4 (by decide) (by decide) (.inr rfl)
      have e1 : ac.eval (.tmp 38) = .slice a2 O.length c2 := (dep 6 (by decide) (by decide) (.inl rfl)).2
      have hg0 : Ft (.slice (some ⟨g, 0, none⟩) 0 0) g := .inl (.inl rfl)
      have hgl := l0 rfl g (by have h := hg0; rw [← e0] at h; exact h)
      refine wp_append_bare (.tmp 36) (.tmp 38) 22 rfl 5 j0 (.int .u8 0) Try.underlying22 gi gz0 gz1 gz2 rfl V.heap.size g e0 hb0 hgl.1 _ O (r2.below hC) e1 (by omega) ?_
      intro v' w' ho hbl hat
      have hlow : ∀ b, Ft v' b → w.heap.size ≤ b ∨ b = g := fun b hb => by
        have hx := OwnB.at ho b hb
        rcases hat with h | h
        · right; rw [hx] at h; exact Option.some.inj h
        · left; rw [hx] at h; exact Nat.le_of_eq (Option.some.inj h).symm
      have hst := fun (l : List Oper) (o : Oper) (VV : Nat → Value) (hd : Rely2.Dep o 4) (hl : 4 < l.length) (hv : Ft (VV 4) g) => heap_step (base := V.heap.size) (B := B) (v1 := .slice a1 S.length c1) (v2 := .slice a2 O.length c2) (vl := .slice al l'.length cl) (S := S) (O := O) (F := F) (l := l) (k := 7) (o := o) (V := VV) (v' := v') (w := w) (w' := w') rfl (fun b hb => (hlow b hb).imp id fun e => ⟨4, hd, hl, rfl, rfl, by rw [e]; exact hv⟩) (fun b hlt _ => hbl.block b hlt) hbl.size
      exact hK v' w' (hC.trans (hbl.mono hC.size)) (hst _ _ _ (by decide) (by decide) (by have h := hg0; rw [← e0] at h; exact h)).1 ⟨fun _ b hb => OwnB.all ho b hb, ho⟩ (hst _ _ _ (by decide) (by decide) (by have h := hg0; rw [← e0] at h; exact h)).2
    refine Rely2.allOb_cons (Rely2.ob_plain (G := fun w w' => Below w.heap.size w w') (fun j v w w' _ _ hb h => hkp hb h) rfl (by decide) (fun ac ρ hc hg hf w hC hold dep K Q hK => ?_)) ?_
    · have e1 : ρ (.tmp 1) = .slice al l'.length cl := hold 1 (by decide)
      simp [go_sem, e1]
      exact hK _ _ hC (Below.refl _ _) ⟨(fun h => by cases h), rfl⟩
    refine Rely2.allOb_cons (Rely2.ob_full rfl (fun ac ρ hc hg hf w hC hold dep K Q hK => ?_)) ?_
    · have e40 : ρ (.tmp 40) = .slice al l'.length cl := (dep 8 (by decide) (by decide) (.inl rfl)).2
      simp [go_sem, hf, e40]
      refine (Rframe_any _ l' w (rl.below hC) (by omega)).mono ?_
      rintro e w4 ⟨v', rfl, ho, hb⟩
      rw [HF.out] at ho
      have hlow : ∀ b, Ft v' b → w.heap.size ≤ b := fun b hb => (OwnB.all ho b hb).1
      have ho' : OwnB w4 V.heap.size v' F := owns_low ho hC.size
      have f := fun (l : List Oper) (o : Oper) (VV : Nat → Value) => fresh_step (base := V.heap.size) (B := B) (v1 := .slice a1 S.length c1) (v2 := .slice a2 O.length c2) (vl := .slice al l'.length cl) (S := S) (O := O) (F := F) (l := l) (k := 9) (o := o) (V := VV) (v' := v') (w := w) (w' := w4) rfl hlow hb
      exact hK _ _ (hC.trans (hb.mono hC.size)) (f _ _ _).1 ⟨fun _ b hb => OwnB.all ho' b hb, ho'⟩ (f _ _ _).2
    refine Rely2.allOb_cons (fun ac w hC hold dep => ⟨fun _ K Q hK => ?_, fun hw => by unfold Region.wanted at hw; cases hw⟩) ?_
    · obtain ⟨l7, o7⟩ := dep 7 (by decide) (by decide) (.inr rfl)
      obtain ⟨l9, o9⟩ := dep 9 (by decide) (by decide) (.inr rfl)
      have o7' : OwnB w V.heap.size (ac.eval (.tmp 39)) O := o7
      have o9' : OwnB w V.heap.size (ac.eval (.tmp 41)) F := o9
      have r9 := owns_row o9' HFb.out
      obtain ⟨g9, cap9, e41, hb9, hlt9⟩ := World.ownsRow.form o9' HFp.out
      rw [e41] at r9
      obtain ⟨ad, cap, e', _, _, _, _, hc⟩ := r9
      cases e'
      have hFl := HFl.out
      refine wp_append_lies w (.tmp 39) (.tmp 41) 22 rfl V.heap.size 5 j0 (.int .u8 0) 1 1 Try.underlying22 gi gz0 gz1 gz2 rfl (by decide) _ O.length _ rfl o7' ⟨g9, 0, none⟩ F.length cap9 (F.map (Value.int .u8)) e41 (by simp) ?_ ?_ HFp.out (by unfold maxLen; omega) (by omega) hC.size _ rfl ?_
      · intro j u hj
        have hjl : j < F.length := by
          apply Classical.byContradiction; intro hn
          rw [List.getElem?_eq_none (by simp; omega)] at hj; cases hj
        obtain ⟨b, off, e', hb, hcell⟩ := hc (by rintro rfl; simp at hjl)
        cases e'
        rw [List.getElem?_map, List.getElem?_eq_getElem hjl] at hj
        simp only [Option.map_some, Option.some.injEq] at hj
        rw [addr_add, hcell j hjl, ← hj, List.getElem?_eq_getElem hjl]; rfl
      · intro u hu
        obtain ⟨y, _, rfl⟩ := List.mem_map.1 hu
        rfl
      intro g cap w1 hown hgrow hat hlt
      have ho : OwnB w1 V.heap.size (.slice (some ⟨g, 0, none⟩) (O.length + F.length) cap) (O ++ F) := by
        show World.ownsRow _ _ _ _ _ _ _
        rw [List.length_append, List.map_append]; exact hown
      have hC1 : Below V.heap.size w w1 := (Below.refl V.heap.size w).grown hgrow hC.size fun k e => (OwnB.all o7' k (.inl (.inl e))).1
      have f := fun (l : List Oper) (o : Oper) (VV : Nat → Value) (hd : Rely2.Dep o 7) (hl : 7 < l.length) (hv : VV 7 = ac.eval (.tmp 39)) => heap_step (base := V.heap.size) (B := B) (v1 := .slice a1 S.length c1) (v2 := .slice a2 O.length c2) (vl := .slice al l'.length cl) (S := S) (O := O) (F := F) (l := l) (k := 10) (o := o) (V := VV) (v' := .slice (some ⟨g, 0, none⟩) (O.length + F.length) cap) (w := w) (w' := w1) rfl
        (fun b hb => by obtain rfl := ft_slice hb; rcases hat with h | h; exact .inr ⟨7, hd, hl, rfl, rfl, by rw [hv]; exact .inl (.inl h)⟩; exact .inl (Nat.le_of_eq h.symm))
        (fun b hlt hn => hgrow.block b hlt (fun e => hn 7 hd hl rfl rfl (by rw [hv]; exact .inl (.inl e.symm)))) hgrow.size
      exact hK _ _ (hC.trans hC1) (f _ _ _ (by decide) (by decide) rfl).1 ⟨fun _ b hb => OwnB.all ho b hb, ho⟩ (f _ _ _ (by decide) (by decide) rfl).2
    refine Rely2.allOb_cons (Rely2.ob_full rfl (fun ac ρ hc hg hf w hC hold dep K Q hK => ?_)) ?_
    · obtain ⟨l3, o3⟩ := dep 3 (by decide) (by decide) (.inr rfl)
      obtain ⟨l10, o10⟩ := dep 10 (by decide) (by decide) (.inr rfl)
      have o3' : OwnB w V.heap.size (ρ (.tmp 35)) S := o3
      have o10' : OwnB w V.heap.size (ρ (.tmp 42)) (O ++ F) := o10
      obtain ⟨z1, z2, z3, e35⟩ := owns_slice o3'
      obtain ⟨y1, y2, y3, e42⟩ := owns_slice o10'
      have f := fun (l : List Oper) (o : Oper) (VV : Nat → Value) (hd : Rely2.Dep o 3) (hd2 : Rely2.Dep o 10) (hl : 3 < l.length) (hl2 : 10 < l.length) (hv : VV 3 = ρ (.tmp 35)) (hv2 : VV 10 = ρ (.tmp 42)) => heap_step (base := V.heap.size) (B := B) (v1 := .slice a1 S.length c1) (v2 := .slice a2 O.length c2) (vl := .slice al l'.length cl) (S := S) (O := O) (F := F) (l := l) (k := 11) (o := o) (V := VV) (v' := .agg #[ρ (.tmp 35), ρ (.tmp 42)]) (w := w) (w' := w) rfl
        (fun b hb => .inr (by rcases ft_agg hb with h | h; exact ⟨3, hd, hl, rfl, rfl, by rw [hv]; exact h⟩; exact ⟨10, hd2, hl2, rfl, rfl, by rw [hv2]; exact h⟩)) (fun _ _ _ => rfl) (Nat.le_refl _)
      have q := fun b (hb : Ft (.agg #[ρ (.tmp 35), ρ (.tmp 42)]) b) => (ft_agg hb).elim (OwnB.all o3' b) (OwnB.all o10' b)
      rw [e35, e42] at f q
      rw [e35] at o3'
      rw [e42] at o10'
      simp [go_sem, e35, e42]
      exact hK _ _ hC (f _ _ _ (by decide) (by decide) (by decide) (by decide) e35 e42).1 ⟨fun _ b hb => q b hb, _, _, rfl, o3', o10'⟩ (f _ _ _ (by decide) (by decide) (by decide) (by decide) e35 e42).2
    refine Rely2.allOb_cons (Rely2.ob_full rfl (fun ac ρ hc hg hf w hC hold dep K Q hK => ?_)) ?_
    · have f := fun (l : List Oper) (o : Oper) (VV : Nat → Value) => fresh_step (base := V.heap.size) (B := B) (v1 := .slice a1 S.length c1) (v2 := .slice a2 O.length c2) (vl := .slice al l'.length cl) (S := S) (O := O) (F := F) (l := l) (k := 12) (o := o) (V := VV) (v' := .pointer (some ⟨w.heap.size, 0, none⟩)) (w := w) (w' := w.alloc (.cells #[.slice none 0 0, .slice none 0 0] 24)) rfl (fun b hb => Nat.le_of_eq (ft_ptr hb)) ((Below.refl _ _).alloc (Nat.le_refl _) _)
      simp [go_sem]
      exact hK _ _ (hC.alloc hC.size _) (f _ _ _).1 ⟨fun _ b hb => (by obtain rfl := ft_ptr hb; exact ⟨hC.size, by simp⟩), _, rfl, Duo.new _ _ _ _⟩ (f _ _ _).2
    exact Rely2.allOb_nil
  · intro ac w hC hold new sep K Q hK
    obtain ⟨l11, x, y, e43, ox, oy⟩ := new 11 (by decide) (.inr rfl)
    obtain ⟨l12, g, e8, hd⟩ := new 12 (by decide) (.inr rfl)
    have ap := sep 11 12 (by decide) (by decide) (.inr rfl) (.inr rfl) (by decide) rfl
    obtain ⟨z1, z2, z3, rfl⟩ := owns_slice ox
    obtain ⟨y1, y2, y3, rfl⟩ := owns_slice oy
    have e43' : ac.tmps[43]?.getD undef = .agg #[.slice z1 z2 z3, .slice y1 y2 y3] := by rw [← Rely.eval_getD]; exact e43
    have e8' : ac.tmps[8]?.getD undef = .pointer (some ⟨g, 0, none⟩) := by rw [← Rely.eval_getD]; exact e8
    have d0 := hd.cell0; have d1 := hd.cell1; have f0 := hd.free 0; have f1 := hd.free 1
    unfold Oper.wp
    simp [go_sem, e43', e8', d0, d1, f0, f1]
    have hz : Duo ((w.setCell ⟨g, 0, none⟩ (.slice z1 z2 z3)).setCell ⟨g, 1, none⟩ (.slice y1 y2 y3)) g 24 (.slice z1 z2 z3) (.slice y1 y2 y3) := (hd.set0 _).set1 _
    have hgb : V.heap.size ≤ g ∧ g < w.heap.size := l12 rfl g (by rw [e8]; exact .inl (.inr ⟨0, rfl⟩))
    have hset : ∀ b, b ≠ g → ((w.setCell ⟨g, 0, none⟩ (.slice z1 z2 z3)).setCell ⟨g, 1, none⟩ (.slice y1 y2 y3)).heap[b]? = w.heap[b]? := fun b hb => by
      simp [World.setCell, Array.getElem?_modify, Ne.symm hb]
    have hno : ∀ b, One (.slice z1 z2 z3) b ∨ One (.slice y1 y2 y3) b → b ≠ g := fun b hb e => by
      subst e
      exact ap b (by rw [e43]; exact .inr ⟨_, _, rfl, hb⟩) (by rw [e8]; exact .inl (.inr ⟨0, rfl⟩))
    exact hK undef _ ⟨bel_set (bel_set hC (p := ⟨g, 0, none⟩) hgb.1 _) (p := ⟨g, 1, none⟩) hgb.1 _, g, _, _, e8, hgb.1, hz, ox.keep fun b hb => hset b (hno b (.inl hb)), oy.keep fun b hb => hset b (hno b (.inr hb))⟩
  · rintro vs w' ⟨hb, g, x, y, e12, hg, hd, ox, oy⟩
    simp only [Rely.putAll, Act.put, Nat.reduceAdd, e12, List.setIfInBounds_toArray, List.set_cons_succ, List.set_cons_zero]
    generalize vs 0 = w0, vs 1 = w1', vs 2 = w2', vs 3 = w3', vs 4 = w4', vs 5 = w5', vs 6 = w6', vs 7 = w7', vs 8 = w8', vs 9 = w9', vs 10 = w10', vs 11 = w11'
    clear e12 vs hkp hcS
    have dX4 := dX.stp hb
    have rx := owns_row ox HBS.out
    have ry := owns_row oy (fun x hx => by rcases List.mem_append.1 hx with h | h; exact HBO.out x h; exact HFb.out x h)
    obtain ⟨z1, z3, rfl⟩ := rx.shape S.length rfl
    obtain ⟨y1, y3, rfl⟩ := ry.shape (O ++ F).length rfl
    have nx : B + 1 ≠ g := by have := dX.lt; omega
    have hB5 := bel_stp HV.out hb
    have past : ∀ {u : Value} {m : List Int}, OwnB w' V.heap.size u m → Off (B + 1) u := fun ho => Past.off (n := V.heap.size) (fun b o l c e => own_above ho (by rw [e]; rfl)) dX.lt
    have px := past ox; have py := past oy
    have hlen : S.length + (O ++ F).length ≤ 65536 := by rw [List.length_append]; have := HFl.out; omega
    obtain ⟨N, hN⟩ : ∃ N, (O ++ F).length = N := ⟨_, rfl⟩
    have HN := Lib.hid hN
    clear ox oy past r1 r2 rl dX dS
    have d0 := hd.cell0; have d1 := hd.cell1; have d2 := hd.lt
    rw [hN] at d1
    clear hN
    go_wp2_with fail
    refine (RCheck_ok _ _ S (O ++ F) w' rx (by rw [HN.out] at ry; exact ry) hlen).mono ?_; rintro e w5 ⟨rfl, hb5⟩
    replace hB5 := bel_stp hB5 hb5
    replace hd := hd.stp hb5
    replace dX4 := dX4.stp hb5
    replace rx := rx.stp hb5
    replace ry := ry.stp hb5
    rw [HN.out] at ry hd py
    have HPX := Lib.hid px; have HPY := Lib.hid py; have RX := Lib.hid rx; have RY := Lib.hid ry; have HB5 := Lib.hid hB5
    clear d0 d1 d2 hb hb5 px py rx ry hB5
    have d0 := hd.cell0; have d1 := hd.cell1; have d2 := hd.lt
    have x0 := dX4.cell0; have x1 := dX4.cell1; have x2 := dX4.free 0; have x3 := dX4.free 1
    go_wp2_with fail
    have hz : Duo ((w5.setCell ⟨B + 1, 0, none⟩ (.slice z1 S.length z3)).setCell ⟨B + 1, 1, none⟩ (.slice y1 N y3)) (B + 1) 24 (.slice z1 S.length z3) (.slice y1 N y3) := (dX4.set0 _).set1 _
    refine bodyPost_ret (results_cell_tmp rfl _ _ (B + 1) _ _ _ _ rfl hz rfl rfl rfl) rfl ⟨_, _, rfl, (RX.out.aside HPX.out _).aside HPX.out _, (RY.out.aside HPY.out _).aside HPY.out _, ?_⟩
    exact bel_set (bel_set HB5.out (by rw [hB]; simp) _) (by rw [hB]; simp) _

set_option maxRecDepth 100000 in
set_option maxHeartbeats 4000000 in
theorem RAppend_not (v1 v2 v : Value) (S O l' : List Int) (w : World) (h1 : Row .u8 w v1 S) (h2 : Row .u8 w v2 O) (h : Row .u8 w v l') (n1 : S.length ≤ 20000) (n2 : O.length ≤ 20000) (hno : 4096 < l'.length ∨ Wm.good (S ++ O) ≠ (S ++ O).length) :
    Calls Try.prog 7 #[.agg #[v1, v2], v] w fun e w' => e = .returned (.tuple #[.agg #[.slice none 0 0, .slice none 0 0], .int .i64 (if 4096 < l'.length then 1 else 200)]) ∧ Below w.heap.size w w' := by
  obtain ⟨a1, c1, rfl⟩ := h1.shape S.length rfl
  obtain ⟨a2, c2, rfl⟩ := h2.shape O.length rfl
  obtain ⟨al, cl, rfl⟩ := h.shape l'.length rfl
  obtain ⟨B, hB⟩ : ∃ B, w.heap.size = B := ⟨_, rfl⟩
  have dS := (Duo.new w 24 (.slice a1 S.length c1) (.slice a2 O.length c2)).alloc (.cells #[.slice none 0 0, .slice none 0 0] 24)
  have dX := Duo.new (w.alloc (.cells #[.slice a1 S.length c1, .slice a2 O.length c2] 24)) 24 (.slice none 0 0) (.slice none 0 0)
  have hbl0 := bel_alloc (bel_alloc (Below.refl w.heap.size w) (.cells #[.slice a1 S.length c1, .slice a2 O.length c2] 24)) (.cells #[.slice none 0 0, .slice none 0 0] 24)
  have r1 := (h1.alloc (.cells #[.slice a1 S.length c1, .slice a2 O.length c2] 24)).alloc (.cells #[.slice none 0 0, .slice none 0 0] 24)
  have r2 := (h2.alloc (.cells #[.slice a1 S.length c1, .slice a2 O.length c2] 24)).alloc (.cells #[.slice none 0 0, .slice none 0 0] 24)
  rw [World.size_alloc] at dX
  rw [hB] at dS dX
  obtain ⟨cd, hcd⟩ : ∃ c : Int, (if 4096 < l'.length then 1 else 200) = c := ⟨_, rfl⟩
  rw [hcd]
  have HCD := Lib.hid hcd
  clear hcd
  have HNO := Lib.hid hno
  clear hno h1 h2 h
  go_enter Try.func7, Try.ntmps7
  have s0 := dS.cell0; have s1 := dS.cell1
  go_wp2_with fail
  (try rw [hB])
  refine (RCheck_ok _ _ S O _ r1 r2 (by omega)).mono ?_; rintro e w1 ⟨rfl, hb1⟩
  replace hbl0 := bel_stp hbl0 hb1
  replace dS := dS.stp hb1
  replace dX := dX.stp hb1
  replace r1 := r1.stp hb1
  replace r2 := r2.stp hb1
  clear hb1 s0 s1
  have s0 := dS.cell0; have s1 := dS.cell1
  have x0 := dX.cell0; have x1 := dX.cell1; have x2 := dX.free 0; have x3 := dX.free 1
  by_cases hl : 4096 < l'.length
  · have nl' : (4096 : Int) < (l'.length : Int) := by omega
    obtain rfl : cd = 1 := by rw [← HCD.out, if_pos hl]
    clear hl
    go_wp2_with fail
    have hz : Duo ((w1.setCell ⟨B + 1, 0, none⟩ (.slice none 0 0)).setCell ⟨B + 1, 1, none⟩ (.slice none 0 0)) (B + 1) 24 (.slice none 0 0) (.slice none 0 0) := (dX.set0 _).set1 _
    refine bodyPost_ret (results_cell_tmp rfl _ _ (B + 1) _ _ _ _ rfl hz rfl rfl rfl) rfl ⟨rfl, ?_⟩
    exact bel_set (bel_set hbl0 (by rw [hB]; simp) _) (by rw [hB]; simp) _
  have nl' : ¬ (4096 : Int) < (l'.length : Int) := by omega
  obtain rfl : cd = 200 := by rw [← HCD.out, if_neg hl]
  have hne : Wm.good (S ++ O) ≠ (S ++ O).length := HNO.out.resolve_left hl
  have hle := Wm.good_le (S ++ O)
  have hsum : (S ++ O).length = S.length + O.length := by simp
  obtain ⟨G, hG⟩ : ∃ G, Wm.good (S ++ O) = G := ⟨_, rfl⟩
  rw [hG] at hne hle
  have HG := Lib.hid hG
  have e1 : IntKind.i64.wrap ((S.length : Int) + O.length) = (S.length : Int) + O.length := by rw [IntWalk.i64_in _ (by omega)]
  have e2 : (G : Int) < (S.length : Int) + O.length := by omega
  clear hne hle hsum hG hl x0 x1 x2 x3
  go_wp2_with fail
  refine (RRead_any _ _ S O _ r1 r2 (by omega) (by omega)).mono ?_; rintro e V ⟨rr, rfl, -, hb1⟩
  rw [HG.out]
  replace hbl0 := bel_stp hbl0 hb1
  replace dS := dS.stp hb1
  replace dX := dX.stp hb1
  clear hb1 s0 s1
  have s0 := dS.cell0; have s1 := dS.cell1
  have x0 := dX.cell0; have x1 := dX.cell1; have x2 := dX.free 0; have x3 := dX.free 1
  go_wp2_with fail
  have hz : Duo ((V.setCell ⟨B + 1, 0, none⟩ (.slice none 0 0)).setCell ⟨B + 1, 1, none⟩ (.slice none 0 0)) (B + 1) 24 (.slice none 0 0) (.slice none 0 0) := (dX.set0 _).set1 _
  refine bodyPost_ret (results_cell_tmp rfl _ _ (B + 1) _ _ _ _ rfl hz rfl rfl rfl) rfl ⟨rfl, ?_⟩
  exact bel_set (bel_set hbl0 (by rw [hB]; simp) _) (by rw [hB]; simp) _
end Go.Proofs.Ytiijlakilogekaa
end

section
namespace Go.Proofs.Ytiijlakilogekaa
open Go.RowKit Go.Sort

/-- Both appends answer alike. -/
theorem both_appends (S O l' : List Int) (n1 : S.length ≤ 3000) (n2 : O.length ≤ 3000) (n3 : l'.length ≤ 5000) : ∃ (A C : List Int) (cd : Int),
    (∀ (v1 v2 v : Value) (w : World), Row .u8 w v1 S → Row .u8 w v2 O → Row .u8 w v l' → Calls Try.prog 6 #[.agg #[v1, v2], v] w fun e w' => (∃ x1 x2, e = .returned (.tuple #[.agg #[x1, x2], .int .i64 cd]) ∧ Row .u8 w' x1 A ∧ Row .u8 w' x2 C) ∧ Below w.heap.size w w') ∧
    (∀ (v1 v2 v : Value) (w : World), Row .u8 w v1 S → Row .u8 w v2 O → Row .u8 w v l' → Calls Try.prog 7 #[.agg #[v1, v2], v] w fun e w' => (∃ x1 x2, e = .returned (.tuple #[.agg #[x1, x2], .int .i64 cd]) ∧ Row .u8 w' x1 A ∧ Row .u8 w' x2 C) ∧ Below w.heap.size w w') := by
  by_cases h : 4096 < l'.length ∨ Wm.good (S ++ O) ≠ (S ++ O).length
  · refine ⟨[], [], if 4096 < l'.length then 1 else 200, fun v1 v2 v w h1 h2 h3 => ?_, fun v1 v2 v w h1 h2 h3 => ?_⟩
    · exact (Append_not v1 v2 v S O l' w h1 h2 h3 (by omega) (by omega) (by omega) h).mono fun e w' h => ⟨⟨_, _, h.1, Row.nil _ _, Row.nil _ _⟩, h.2⟩
    · exact (RAppend_not v1 v2 v S O l' w h1 h2 h3 (by omega) (by omega) h).mono fun e w' h => ⟨⟨_, _, h.1, Row.nil _ _, Row.nil _ _⟩, h.2⟩
  · have hl : l'.length ≤ 4096 := Nat.le_of_not_lt fun hx => h (.inl hx)
    have hg : Wm.good (S ++ O) = (S ++ O).length := Classical.byContradiction fun hx => h (.inr hx)
    refine ⟨S, O ++ Wm.frame l', 0, fun v1 v2 v w h1 h2 h3 => ?_, fun v1 v2 v w h1 h2 h3 => ?_⟩
    · exact (Append_ok v1 v2 v S O l' w h1 h2 h3 (by omega) (by omega) hl hg).mono fun e w' ⟨x1, x2, e1, r1, r2, hb⟩ => ⟨⟨x1, x2, e1, r1, r2⟩, hb⟩
    · exact (RAppend_ok v1 v2 v S O l' w h1 h2 h3 (by omega) (by omega) hl hg).mono fun e w' ⟨x1, x2, e1, r1, r2, hb⟩ => ⟨⟨x1, x2, e1, r1, r2⟩, hb⟩

set_option maxRecDepth 100000 in
set_option maxHeartbeats 8000000 in
theorem WalPuts_any (v0 : Value) (x0 : List Int × List Int) (vb : Value) (bs : List Int) (w : World) (h : Sto w v0 x0) (hb0 : Row .u8 w vb bs) :
    Calls Try.prog 3 #[v0, vb] w fun e w' => e = .returned (.bool true) ∧ Below w.heap.size w w' := by
  obtain ⟨S, O⟩ := x0
  obtain ⟨v1, v2, rfl, rS, rO⟩ := h
  simp only at rS rO
  have rb := hb0
  obtain ⟨a1, c1, rfl⟩ := rS.shape S.length rfl
  obtain ⟨a2, c2, rfl⟩ := rO.shape O.length rfl
  obtain ⟨ab, cb, rfl⟩ := rb.shape bs.length rfl
  have hB := Below.refl w.heap.size w
  clear hb0
  go_enter Try.func3, Try.ntmps3
  have bS := Duo.new w 24 (.slice a1 S.length c1) (.slice a2 O.length c2)
  go_wp2_with fail
  refine (live_true _).mono ?_; rintro e w1 ⟨rfl, hb⟩
  replace hB := bel_stp (bel_alloc hB _) hb
  replace rS := (rS.alloc _).stp hb
  replace rO := (rO.alloc _).stp hb
  replace rb := (rb.alloc _).stp hb
  replace bS := bS.stp hb
  clear hb
  have c0_bS := bS.cell0
  have c1_bS := bS.cell1
  have lt_bS := bS.lt
  go_wp2_with fail
  refine (Few_any _ _ S O _ rS rO).mono ?_; rintro e w2 ⟨rfl, hb⟩
  clear c0_bS c1_bS lt_bS
  replace hB := bel_stp hB hb
  replace rS := rS.stp hb
  replace rO := rO.stp hb
  replace rb := rb.stp hb
  replace bS := bS.stp hb
  clear hb
  by_cases c : S.length ≤ 3000 ∧ O.length ≤ 3000
  case neg =>
    rw [decide_eq_false c]
    clear c
    have c0_bS := bS.cell0
    have c1_bS := bS.cell1
    have lt_bS := bS.lt
    go_wp2_with fail
    go_ret
    exact ⟨rfl, hB⟩
  rw [decide_eq_true c]
  obtain ⟨n1, n2⟩ := c
  by_cases g1 : bs.length ≤ 5000
  case neg =>
    have g1' : (5000 : Int) < (bs.length : Int) := by omega
    clear g1
    have c0_bS := bS.cell0
    have c1_bS := bS.cell1
    have lt_bS := bS.lt
    go_wp2_with fail
    go_ret
    exact ⟨rfl, hB⟩
  have g1' : ¬ (5000 : Int) < (bs.length : Int) := by omega
  obtain ⟨A, D, cd, q1, q2⟩ := both_appends S O bs n1 n2 g1
  have Q1 := Lib.hid q1; have Q2 := Lib.hid q2
  clear q1 q2
  obtain ⟨T, hT⟩ : ∃ T, S ++ O = T := ⟨_, rfl⟩
  have HT := Lib.hid hT
  clear hT
  have c0_bS := bS.cell0
  have c1_bS := bS.cell1
  have lt_bS := bS.lt
  go_wp2_with fail
  refine (Q1.out _ _ _ _ rS rO rb).mono ?_; rintro e w3 ⟨⟨x1, x2, rfl, x3, x4⟩, hb⟩
  clear c0_bS c1_bS lt_bS
  replace hB := bel_stp hB hb
  replace rS := rS.stp hb
  replace rO := rO.stp hb
  replace rb := rb.stp hb
  replace bS := bS.stp hb
  clear hb
  obtain ⟨x5, x6, rfl⟩ := x3.shape A.length rfl
  obtain ⟨x7, x8, rfl⟩ := x4.shape D.length rfl
  clear g1'
  have bX := Duo.new w3 24 (.slice x5 A.length x6) (.slice x7 D.length x8)
  have c0_bS := bS.cell0
  have c1_bS := bS.cell1
  have lt_bS := bS.lt
  go_wp2_with fail
  refine (Q2.out _ _ _ _ (rS.alloc _) (rO.alloc _) (rb.alloc _)).mono ?_; rintro e w4 ⟨⟨y1, y2, rfl, y3, y4⟩, hb⟩
  clear c0_bS c1_bS lt_bS
  replace hB := bel_stp (bel_alloc hB _) hb
  replace rS := (rS.alloc _).stp hb
  replace rO := (rO.alloc _).stp hb
  replace rb := (rb.alloc _).stp hb
  replace bS := (bS.alloc _).stp hb
  replace x3 := (x3.alloc _).stp hb
  replace x4 := (x4.alloc _).stp hb
  replace bX := bX.stp hb
  clear hb
  obtain ⟨y5, y6, rfl⟩ := y3.shape A.length rfl
  obtain ⟨y7, y8, rfl⟩ := y4.shape D.length rfl
  have bY := Duo.new w4 24 (.slice y5 A.length y6) (.slice y7 D.length y8)
  have c0_bS := bS.cell0
  have c1_bS := bS.cell1
  have lt_bS := bS.lt
  go_wp2_with fail
  refine (Sync_of _ _ S O T _ (rS.alloc _) (rO.alloc _) (by omega) HT.out).mono ?_; rintro e w5 ⟨u5, u6, rfl, u3, -, hb⟩
  clear c0_bS c1_bS lt_bS
  replace hB := bel_stp (bel_alloc hB _) hb
  replace rS := (rS.alloc _).stp hb
  replace rO := (rO.alloc _).stp hb
  replace rb := (rb.alloc _).stp hb
  replace bS := (bS.alloc _).stp hb
  replace x3 := (x3.alloc _).stp hb
  replace x4 := (x4.alloc _).stp hb
  replace bX := (bX.alloc _).stp hb
  replace y3 := (y3.alloc _).stp hb
  replace y4 := (y4.alloc _).stp hb
  replace bY := bY.stp hb
  clear hb
  have bU := Duo.new w5 24 (.slice u5 T.length u6) (.slice none 0 0)
  have c0_bS := bS.cell0
  have c1_bS := bS.cell1
  have lt_bS := bS.lt
  go_wp2_with fail
  refine (RSync_of _ _ S O T _ (rS.alloc _) (rO.alloc _) (by omega) HT.out).mono ?_; rintro e w6 ⟨z5, z6, rfl, z3, hb⟩
  clear c0_bS c1_bS lt_bS
  replace hB := bel_stp (bel_alloc hB _) hb
  replace rS := (rS.alloc _).stp hb
  replace rO := (rO.alloc _).stp hb
  replace rb := (rb.alloc _).stp hb
  replace bS := (bS.alloc _).stp hb
  replace x3 := (x3.alloc _).stp hb
  replace x4 := (x4.alloc _).stp hb
  replace bX := (bX.alloc _).stp hb
  replace y3 := (y3.alloc _).stp hb
  replace y4 := (y4.alloc _).stp hb
  replace bY := (bY.alloc _).stp hb
  replace u3 := (u3.alloc _).stp hb
  replace bU := bU.stp hb
  clear hb
  have bV := Duo.new w6 24 (.slice z5 T.length z6) (.slice none 0 0)
  replace hB := bel_alloc hB (.cells #[.slice z5 T.length z6, .slice none 0 0] 24)
  replace rS := rS.alloc (.cells #[.slice z5 T.length z6, .slice none 0 0] 24)
  replace rO := rO.alloc (.cells #[.slice z5 T.length z6, .slice none 0 0] 24)
  replace rb := rb.alloc (.cells #[.slice z5 T.length z6, .slice none 0 0] 24)
  replace bS := bS.alloc (.cells #[.slice z5 T.length z6, .slice none 0 0] 24)
  replace x3 := x3.alloc (.cells #[.slice z5 T.length z6, .slice none 0 0] 24)
  replace x4 := x4.alloc (.cells #[.slice z5 T.length z6, .slice none 0 0] 24)
  replace bX := bX.alloc (.cells #[.slice z5 T.length z6, .slice none 0 0] 24)
  replace y3 := y3.alloc (.cells #[.slice z5 T.length z6, .slice none 0 0] 24)
  replace y4 := y4.alloc (.cells #[.slice z5 T.length z6, .slice none 0 0] 24)
  replace bY := bY.alloc (.cells #[.slice z5 T.length z6, .slice none 0 0] 24)
  replace u3 := u3.alloc (.cells #[.slice z5 T.length z6, .slice none 0 0] 24)
  replace bU := bU.alloc (.cells #[.slice z5 T.length z6, .slice none 0 0] 24)
  replace z3 := z3.alloc (.cells #[.slice z5 T.length z6, .slice none 0 0] 24)
  obtain ⟨V, hV⟩ : ∃ V, World.alloc w6 (.cells #[.slice z5 T.length z6, .slice none 0 0] 24) = V := ⟨_, rfl⟩
  rw [hV] at hB rS rO rb bS x3 x4 bX y3 y4 bY u3 bU z3 bV
  have HV := Lib.hid hV
  clear hV
  go_wp2_with fail
  rw [HV.out]
  clear HV
  have K_rS := Lib.hid rS
  have K_rO := Lib.hid rO
  have K_x3 := Lib.hid x3
  have K_x4 := Lib.hid x4
  have K_y3 := Lib.hid y3
  have K_y4 := Lib.hid y4
  have K_u3 := Lib.hid u3
  have K_z3 := Lib.hid z3
  have HB := Lib.hid hB
  clear rS rO rb x3 x4 y3 y4 u3 z3 hB
  have c0_bS := bS.cell0
  have c1_bS := bS.cell1
  have lt_bS := bS.lt
  have c0_bX := bX.cell0
  have c1_bX := bX.cell1
  have lt_bX := bX.lt
  have c0_bY := bY.cell0
  have c1_bY := bY.cell1
  have lt_bY := bY.lt
  have c0_bU := bU.cell0
  have c1_bU := bU.cell1
  have lt_bU := bU.lt
  have c0_bV := bV.cell0
  have c1_bV := bV.cell1
  have lt_bV := bV.lt
  have q_c0_bS := cell_regrown c0_bS
  have q_c1_bS := cell_regrown c1_bS
  have q_c0_bX := cell_regrown c0_bX
  have q_c1_bX := cell_regrown c1_bX
  have q_c0_bY := cell_regrown c0_bY
  have q_c1_bY := cell_regrown c1_bY
  have q_c0_bU := cell_regrown c0_bU
  have q_c1_bU := cell_regrown c1_bU
  have q_c0_bV := cell_regrown c0_bV
  have q_c1_bV := cell_regrown c1_bV
  have q1 : ∀ d os, Calls Try.prog 10 #[.agg #[.slice x5 A.length x6, .slice x7 D.length x8], .agg #[.slice y5 A.length y6, .slice y7 D.length y8]] (grow (redrawn V d) os) fun e w'' => e = .returned (.bool true) ∧ ∃ p : Regrown, w'' = grow (redrawn V p.d) p.os := fun d os => Calls.regrown_of (by have bw := below_regrown V d os; exact Same_yes _ _ _ _ A D A D _ (K_x3.out.below bw) (K_x4.out.below bw) (K_y3.out.below bw) (K_y4.out.below bw) rfl rfl)
  have q2 : ∀ d os, Calls Try.prog 10 #[.agg #[.slice u5 T.length u6, .slice none 0 0], .agg #[.slice z5 T.length z6, .slice none 0 0]] (grow (redrawn V d) os) fun e w'' => e = .returned (.bool true) ∧ ∃ p : Regrown, w'' = grow (redrawn V p.d) p.os := fun d os => Calls.regrown_of (by have bw := below_regrown V d os; exact Same_yes _ _ _ _ T [] T [] _ (K_u3.out.below bw) (Row.nil _ _) (K_z3.out.below bw) (Row.nil _ _) rfl rfl)
  have q3 : ∀ d os, Calls Try.prog 11 #[.agg #[.slice a1 S.length c1, .slice a2 O.length c2]] (grow (redrawn V d) os) fun e w'' => e = .returned (.int .i64 0) ∧ ∃ p : Regrown, w'' = grow (redrawn V p.d) p.os := fun d os => Calls.regrown_of (by have bw := below_regrown V d os; exact Check_ok _ _ S O _ (K_rS.out.below bw) (K_rO.out.below bw) (by omega))
  have q4 : ∀ d os, Calls Try.prog 12 #[.agg #[.slice a1 S.length c1, .slice a2 O.length c2]] (grow (redrawn V d) os) fun e w'' => e = .returned (.int .i64 0) ∧ ∃ p : Regrown, w'' = grow (redrawn V p.d) p.os := fun d os => Calls.regrown_of (by have bw := below_regrown V d os; exact RCheck_ok _ _ S O _ (K_rS.out.below bw) (K_rO.out.below bw) (by omega))
  (try rw [hV])
  refine wp_region_quiet_below (by kernel_rfl) (by kernel_rfl) ?_
  repeat (go_big_quiet_step (first | with_reducible exact q1 _ _ | with_reducible exact q2 _ _ | with_reducible exact q3 _ _ | with_reducible exact q4 _ _))
  refine wpQuiet_nil ?_
  intro _ hw'
  obtain ⟨⟨dq, osq⟩, hw''⟩ := hw'
  subst hw''
  go_wp2_with fail
  go_ret
  exact ⟨rfl, HB.out.trans ((below_regrown V dq osq).mono HB.out.size)⟩
end Go.Proofs.Ytiijlakilogekaa
end
