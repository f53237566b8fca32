/-
  A range over a function whose iterator tells each round what it knows of the world in which it yields: a law of the walk, over the library's wpIn_rangeFunc.
-/
import Derived.RangeFuncWrites
import Derived.Test.YtlaidjgdipacgaaGreatDoorOn
namespace Go.Proofs.YtlaidjgdipacgaaGreatDoor
open Go.RowKit

section
variable {F : Fence} {n : Nat} {P : Program} {α : Type}

/-- An iterator; Bs: the blocks of its own that it writes; R: what it knows of the world V when it yields x behind pre, having gone on from V0. -/
def SeqTold (F : Fence) (n : Nat) (P : Program) (g : Nat) (lb : Array Value) (encs : α → Array Value) (Bs : Nat → Prop) (R : List α → α → World → World → Prop) (Kp : List α → World → World → Prop) (S Sp : List α → Prop) (w : World) : Prop :=
  ∀ (l : Nat) (J Jx : List α → World → Prop) (W : World), Below w.heap.size w W → (∀ pre A B, J pre A → Only Bs A B → J pre B) → (∀ pre A B, Jx pre A → Only Bs A B → Jx pre B) →
    (∀ pre x V0 V, J pre V0 → Below V0.heap.size V0 V → R pre x V0 V → YieldAt F (n - 1) P l (encs x) V fun e V' => (e = .returned (.bool true) ∧ J (pre ++ [x]) V' ∧ Kp (pre ++ [x]) V V') ∨ (e = .returned (.bool false) ∧ Jx (pre ++ [x]) V')) →
    J [] W → CallsIn F n P g (#[.func (.yield l) #[] #[]] ++ lb) W fun e W' => (∃ v, e = .returned v) ∧ ((∃ xs, S xs ∧ J xs W') ∨ (∃ pre, Sp pre ∧ Jx pre W'))

/-- How a round's body, begun in V behind the yield in W, may be left. -/
def toldPost (B : Nat) (Kp : List α → World → World → Prop) (I : List α → World → Prop) (Ix : Code → List α → World → Prop) (xs : List α) (W V : World) : Exit → Act → World → Prop
  | .normal, _, V' => KeepsFrom B V V' ∧ Kp xs W V' ∧ I xs V'
  | .ret, _, V' => KeepsFrom B V V' ∧ Ix .ret xs V'
  | .exit id, _, V' => KeepsFrom B V V' ∧ Ix (.exit id) xs V'
  | .goto t, _, V' => KeepsFrom B V V' ∧ Ix (.goto t) xs V'
  | .panic _, _, _ => False
  | .outgrown, _, _ => False

/-- A block of book-keeping that is no cells, at or beyond B, lies on through what a body does. -/
theorem keeps_at {B k : Nat} {V V' : World} {o : Obj} (h : KeepsFrom B V V') (hk : B ≤ k) (ho : V.heap[k]? = some o) (hc : o.isCells = false) : V'.heap[k]? = some o := h.same k o hk ho hc

theorem wpIn_told {g : Operand} {ps : Array Tmp} {assign body : Code} {Q : Exit → Act → World → Prop} {a : Act} {w w0 : World}
    (hro : F.round = none) (h1 : 1 ≤ n) {gf : Nat} {lb : Array Value} (hg : a.eval g = .func (.func gf) #[] lb) (hFg : F.fn gf) (eg : ∀ args w, (callFunc gf args).run P w = .ok (.enter gf args) w)
    {encs : α → Array Value} {Bs : Nat → Prop} {R : List α → α → World → World → Prop} {Kp : List α → World → World → Prop} {S Sp : List α → Prop} (hseq : SeqTold F (n - 1) P gf lb encs Bs R Kp S Sp w0)
    (hKb : ∀ (xs : List α) (A V : World) (l : Nat) (o o' : Obj), Kp xs A V → w.heap.size ≤ l → V.heap[l]? = some o → o.isCells = false → o.isWalk = false → Kp xs A (V.putObj l o')) (hb0 : Below w0.heap.size w0 w) (hps : ∀ x, (encs x).size = ps.size)
    (I : List α → World → Prop) (Ix : Code → List α → World → Prop) (hBs : ∀ k, Bs k → k < w.heap.size) (hI : OwnFrom w.heap.size I) (hIx : ∀ c, OwnFrom w.heap.size (Ix c)) (hIB : ∀ pre A B, I pre A → Only Bs A B → I pre B) (hIxB : ∀ c pre A B, Ix c pre A → Only Bs A B → Ix c pre B) (h0 : I [] w)
    (hround : ∀ (l : Nat) (pre : List α) (x : α) (W0 W : World), w.heap.size ≤ l → I pre W0 → Below W0.heap.size W0 W → R pre x W0 W → (∃ r, W.heap[l]? = some (.loop r)) →
      assign.wpIn (F.inRound l) (n - 1 - 1) P (Exit.then (fun a' V => KeepsFrom w.heap.size W V ∧ ∀ r, body.wpIn (F.inRound l) (n - 1 - 1) P (toldPost w.heap.size Kp I Ix (pre ++ [x]) W (V.putObj l (.loop r))) a' (V.putObj l (.loop r))) (fun _ _ _ => False))
        { tmps := (ps.zip (encs x)).foldl (fun t (p, v) => t.setIfInBounds p v) a.tmps, defers := [] } W)
    (hdone : ∀ (D : Nat) (xs : List α) (W : World), w.heap.size ≤ D → S xs → I xs W → W.heap[D]? = some (.deferred (some [])) → Q .normal { a with defers := { target := .collected D, args := #[] } :: a.defers } W)
    (hstop : ∀ (D : Nat) (c : Code) (pre : List α) (W : World), w.heap.size ≤ D → Sp pre → Ix c pre W → W.heap[D]? = some (.deferred (some [])) → c.wpIn F n P Q { a with defers := { target := .collected D, args := #[] } :: a.defers } W) :
    (Code.rangeFunc g ps assign body).wpIn F n P Q a w := by
  refine wpIn_rangeFunc fun fn hfn => ?_
  rw [hro]
  -- the two blocks of book-keeping: D for the deferred calls, L for the record
  obtain ⟨D, hD⟩ : ∃ D, w.heap.size = D := ⟨_, rfl⟩
  let lp : LoopState → Option Code → Obj := fun st pe => .loop { state := st, pending := pe, fn, tmps := a.tmps, params := ps, assign, body, defers := D }
  have hlp : ∀ st pe, lp st pe = .loop { state := st, pending := pe, fn, tmps := a.tmps, params := ps, assign, body, defers := D } := fun _ _ => rfl
  have lpc : ∀ st pe, (lp st pe).isCells = false := fun _ _ => rfl
  have lpw : ∀ st pe, (lp st pe).isWalk = false := fun _ _ => rfl
  have start : ((w.alloc (.deferred (some []))).alloc (lp .ready none)).heap[D + 1]? = some (lp .ready none) ∧ ((w.alloc (.deferred (some []))).alloc (lp .ready none)).heap[D]? = some (.deferred (some [])) := by
    refine ⟨?_, ?_⟩
    · have := World.alloc_heap_new (w.alloc (.deferred (some []))) (lp .ready none)
      rw [World.size_alloc, hD] at this; exact this
    · have h2 := World.alloc_heap_new w (.deferred (some []))
      rw [hD] at h2
      exact (Below.heap_alloc _ _ _ (by simp; omega)).trans h2
  have hI1 : I [] ((w.alloc (.deferred (some []))).alloc (lp .ready none)) := hI.alloc _ (hI.alloc _ h0)
  have hb1 : Below w0.heap.size w0 ((w.alloc (.deferred (some []))).alloc (lp .ready none)) := (hb0.alloc hb0.size _).alloc (by have := hb0.size; simp; omega) _
  have hsz : ((w.alloc (.deferred (some []))).alloc (lp .ready none)).heap.size = D + 2 := by simp [hD]
  have hrun : (Instr.enterLoop fn a.tmps ps assign body none).run P w = .ok (D + 1, [{ target := .collected D, args := #[] }]) ((w.alloc (.deferred (some []))).alloc (lp .ready none)) := by
    have h := run_enterLoop_outer (P := P) (w := w) fn a.tmps ps assign body
    rw [hD] at h; exact h
  generalize (w.alloc (.deferred (some []))).alloc (lp .ready none) = W1 at *
  refine ⟨D + 1, _, W1, { target := .fn (.func gf) lb, args := #[.func (.yield (D + 1)) #[] #[]] }, W1, gf, #[.func (.yield (D + 1)) #[] #[]] ++ lb, W1, hrun, ?_, ?_, ?_, fun _ => h1, ?_⟩
  · simp only [resolve, hg]; simp [go_sem]
  · intro f' hf'; simp [Target.leads] at hf'; subst hf'; exact hFg
  · simp [invoke, go_sem, eg]
  -- what the law itself keeps beside the caller's invariant
  have stay : ∀ {X Y : World} {k : Nat} {o : Obj}, Only Bs X Y → D ≤ k → X.heap[k]? = some o → Y.heap[k]? = some o :=
    fun hg hk ho => (hg.block _ (Array.getElem?_eq_some_iff.1 ho).1 (fun hb => by have := hBs _ hb; omega)).trans ho
  refine (hseq (D + 1) (fun pre V => I pre V ∧ V.heap[D + 1]? = some (lp .ready none) ∧ V.heap[D]? = some (.deferred (some [])))
    (fun pre V => ∃ c, Ix c pre V ∧ V.heap[D + 1]? = some (lp .done (some c)) ∧ V.heap[D]? = some (.deferred (some []))) W1 hb1
    (fun s X Y hs hg' => ⟨hIB s X Y hs.1 hg', stay hg' (by omega) hs.2.1, stay hg' (Nat.le_refl _) hs.2.2⟩)
    (fun s X Y ⟨c, hs1, hs2, hs3⟩ hg' => ⟨c, hIxB c s X Y hs1 hg', stay hg' (by omega) hs2, stay hg' (Nat.le_refl _) hs3⟩) ?_ ⟨hI1, start.1, start.2⟩).mono ?_
  · -- one round
    rintro pre x W0 W ⟨hi, hl0, hd0⟩ hbw hR
    have hl := (hbw.block (D + 1) (Array.getElem?_eq_some_iff.1 hl0).1).trans hl0
    have hd := (hbw.block D (Array.getElem?_eq_some_iff.1 hd0).1).trans hd0
    refine ⟨fn, _, assign, body, run_yield (P := P) (args := encs x) hl (hps x), roundIn_of_wpIn hfn (wpIn_mono (hround (D + 1) pre x W0 W (by omega) hi hbw hR ⟨_, hl⟩) ?_)⟩
    intro ea a' V hp
    cases ea with
    | exit id => exact hp
    | goto t => exact hp
    | ret => exact hp
    | panic ch => exact hp
    | outgrown => exact hp
    | normal =>
    obtain ⟨hk, hbody⟩ := hp
    have hlV := keeps_at hk (k := D + 1) (by omega) hl rfl
    have hdV := keeps_at hk (k := D) (by omega) hd rfl
    have hlt : D + 1 < V.heap.size := (Array.getElem?_eq_some_iff.1 hlV).1
    refine ⟨_, run_beginRound hlV rfl, ?_⟩
    have hlB : (V.putObj (D + 1) (lp .busy none)).heap[D + 1]? = some (lp .busy none) := World.putObj_heap_same hlt
    have hdB : (V.putObj (D + 1) (lp .busy none)).heap[D]? = some (.deferred (some [])) := (World.putObj_heap_other (by omega)).trans hdV
    refine wpIn_mono (hbody _) ?_
    -- the record at the round's end
    have fin : ∀ (jump : Option Code) (V3 : World), KeepsFrom w.heap.size (V.putObj (D + 1) (lp .busy none)) V3 → V3.heap[D + 1]? = some (lp .busy none) ∧
        (Instr.endRound (D + 1) jump).run P V3 = .ok (.bool jump.isNone) (V3.putObj (D + 1) (lp (if jump.isNone then .ready else .done) jump)) ∧
        (V3.putObj (D + 1) (lp (if jump.isNone then .ready else .done) jump)).heap[D + 1]? = some (lp (if jump.isNone then .ready else .done) jump) ∧
        (V3.putObj (D + 1) (lp (if jump.isNone then .ready else .done) jump)).heap[D]? = some (.deferred (some [])) := fun jump V3 h3 => by
      have e3 := keeps_at h3 (k := D + 1) (by omega) hlB rfl
      exact ⟨e3, run_endRound (P := P) jump e3, World.putObj_heap_same (Array.getElem?_eq_some_iff.1 e3).1, (World.putObj_heap_other (by omega)).trans (keeps_at h3 (k := D) (by omega) hdB rfl)⟩
    intro e a3 V3 hp
    cases e with
    | normal =>
      obtain ⟨h3, hkp, hi3⟩ := hp
      obtain ⟨f0, f1, f2, f3⟩ := fin none V3 h3
      exact ⟨_, _, f1, .inl ⟨rfl, ⟨hI.putObj _ hi3 (by omega) f0 rfl, f2, f3⟩, hKb _ _ _ _ _ _ hkp (by omega) f0 rfl rfl⟩⟩
    | ret =>
      obtain ⟨h3, hi3⟩ := hp
      obtain ⟨f0, f1, f2, f3⟩ := fin (some .ret) V3 h3
      exact ⟨_, _, f1, .inr ⟨rfl, .ret, (hIx _).putObj _ hi3 (by omega) f0 rfl, f2, f3⟩⟩
    | exit id =>
      obtain ⟨h3, hi3⟩ := hp
      obtain ⟨f0, f1, f2, f3⟩ := fin (some (.exit id)) V3 h3
      exact ⟨_, _, f1, .inr ⟨rfl, .exit id, (hIx _).putObj _ hi3 (by omega) f0 rfl, f2, f3⟩⟩
    | goto t =>
      obtain ⟨h3, hi3⟩ := hp
      obtain ⟨f0, f1, f2, f3⟩ := fin (some (.goto t)) V3 h3
      exact ⟨_, _, f1, .inr ⟨rfl, .goto t, (hIx _).putObj _ hi3 (by omega) f0 rfl, f2, f3⟩⟩
    | panic ch => exact hp.elim
    | outgrown => exact hp.elim
  · -- behind the iterator
    rintro e W2 ⟨⟨v, rfl⟩, ⟨xs, hS, hi, hl, hd⟩ | ⟨pre, hS, c, hi, hl, hd⟩⟩
    · exact ⟨none, _, run_endLoop (P := P) hl (by simp), hdone D xs _ (by omega) hS (hI.putObj _ hi (by omega) hl rfl) ((World.putObj_heap_other (by omega)).trans hd)⟩
    · exact ⟨some c, _, run_endLoop (P := P) hl (by simp), hstop D c pre _ (by omega) hS ((hIx c).putObj _ hi (by omega) hl rfl) ((World.putObj_heap_other (by omega)).trans hd)⟩
end
end Go.Proofs.YtlaidjgdipacgaaGreatDoor
