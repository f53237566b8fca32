/-
  Walks over der.Same: bytes.Equal, slices.EqualFunc over Same, Same (they call each other).
-/
import Derived.Test.YtpmiihmhfagfoaaDoorDd
namespace Go.Proofs.YtpmiihmhfagfoaaDoor
open Go.RowKit

mutual
def Dm.eqIt : Dm.It → Dm.It → Bool
  | .mk t b l, .mk u c m => decide (t = u) && decide (b = c) && Dm.eqIts l m
def Dm.eqIts : List Dm.It → List Dm.It → Bool
  | [], [] => true
  | x :: l, y :: m => Dm.eqIt x y && Dm.eqIts l m
  | _, _ => false
end
mutual
theorem Dm.eqIt_iff : ∀ x y : Dm.It, Dm.eqIt x y = true ↔ x = y
  | .mk t b l, .mk u c m => by
    unfold Dm.eqIt
    simp only [Bool.and_eq_true, decide_eq_true_eq, Dm.eqIts_iff l m, Dm.It.mk.injEq, and_assoc]
theorem Dm.eqIts_iff : ∀ l m : List Dm.It, Dm.eqIts l m = true ↔ l = m
  | [], [] => by simp [Dm.eqIts]
  | [], _ :: _ => by simp [Dm.eqIts]
  | _ :: _, [] => by simp [Dm.eqIts]
  | x :: l, y :: m => by simp [Dm.eqIts, Dm.eqIt_iff x y, Dm.eqIts_iff l m]
end
theorem Dm.eqIt_eq (x y : Dm.It) : Dm.eqIt x y = (decide (x.tag = y.tag) && decide (x.b = y.b) && Dm.eqIts x.l y.l) := by cases x; cases y; rw [Dm.eqIt]; rfl
theorem Dm.eqIts_len : ∀ {l m : List Dm.It}, l.length ≠ m.length → Dm.eqIts l m = false
  | [], [], h => absurd rfl h
  | [], _ :: _, _ => rfl
  | _ :: _, [], _ => rfl
  | x :: l, y :: m, h => by rw [Dm.eqIts, Dm.eqIts_len (l := l) (m := m) (by simpa using h), Bool.and_false]
theorem Dm.eqIts_drop {l m : List Dm.It} {k : Nat} (hk : k < l.length) (hm : k < m.length) : Dm.eqIts (l.drop k) (m.drop k) = (Dm.eqIt (l[k]?.getD Dm.no) (m[k]?.getD Dm.no) && Dm.eqIts (l.drop (k + 1)) (m.drop (k + 1))) := by
  rw [List.drop_eq_getElem_cons hk, List.drop_eq_getElem_cons hm, Dm.eqIts, List.getElem?_eq_getElem hk, List.getElem?_eq_getElem hm]; rfl

theorem Equal_any (v1 v2 : Value) (l1 l2 : List Int) (w : World) (h1 : Row .u8 w v1 l1) (h2 : Row .u8 w v2 l2) :
    Calls Tryd.prog 49 #[v1, v2] w fun e w' => e = .returned (.bool (decide (l1 = l2))) ∧ w = w' := by
  have k1 := h1.convert
  have k2 := h2.convert
  have hs := str_eq h1.all_byte h2.all_byte
  obtain ⟨S1, hS1⟩ : ∃ S, strOfNums l1 = S := ⟨_, rfl⟩
  obtain ⟨S2, hS2⟩ : ∃ S, strOfNums l2 = S := ⟨_, rfl⟩
  rw [hS1] at k1 hs
  rw [hS2] at k2 hs
  go_enter Tryd.func49, Tryd.ntmps49
  go_wp2_with fail
  go_ret
  exact ⟨rfl, rfl⟩
/-- What is asked of a call of Same. -/
def SameOn (x : Dm.It) : Prop := ∀ (y : Dm.It) (w : World) (vb vl ub ul : Value), ItP w vb vl x → ItP w ub ul y →
  Calls Tryd.prog 19 #[.agg #[.int .i64 x.tag, vb, vl], .agg #[.int .i64 y.tag, ub, ul]] w fun e w' => e = .returned (.bool (Dm.eqIt x y)) ∧ Below w.heap.size w w'
abbrev EQF := 50

set_option maxRecDepth 100000 in
set_option maxHeartbeats 2000000 in
theorem EqualFunc_any (l m : List Dm.It) (hP : ∀ x ∈ l, SameOn x) (v1 v2 : Value) (w : World) (h1 : ItsV w v1 l) (h2 : ItsV w v2 m) :
    Calls Tryd.prog EQF #[v1, v2, .func (.func 19) #[] #[]] w fun e w' => e = .returned (.bool (Dm.eqIts l m)) ∧ Below w.heap.size w w' := by
  have hm1 : l.length ≤ maxLen := by obtain ⟨_, _, _, q1, q2, _⟩ := h1; omega
  obtain ⟨a1, c1, rfl⟩ := h1.shape
  obtain ⟨a2, c2, rfl⟩ := h2.shape
  have HP := Lib.hid hP; have H1 := Lib.hid h1; have H2 := Lib.hid h2
  unfold maxLen at hm1
  clear hP h1 h2
  obtain ⟨n, hn⟩ : ∃ n, l.length = n := ⟨_, rfl⟩
  obtain ⟨n2, hn2⟩ : ∃ n, m.length = n := ⟨_, rfl⟩
  have HN := Lib.hid hn; have HN2 := Lib.hid hn2
  rw [hn] at hm1 ⊢
  rw [hn2]
  by_cases hln : n = n2
  case neg =>
    have hE : Dm.eqIts l m = false := Dm.eqIts_len (by rw [hn, hn2]; exact hln)
    have hln' : ¬ (n : Int) = (n2 : Int) := by omega
    clear hn hn2
    go_enter Tryd.func50, Tryd.ntmps50
    go_wp2_with fail
    go_ret
    exact ⟨by rw [hE]; rfl, Below.refl _ _⟩
  subst hln
  clear hn hn2
  go_enter Tryd.func50, Tryd.ntmps50
  go_wp2_with fail
  go_loopw [7, 8, 9, 17] (fun _ _ _ i wr => ∃ k : Nat, i = .int .i64 k ∧ k ≤ n ∧ Dm.eqIts l m = Dm.eqIts (l.drop k) (m.drop k) ∧ Below w.heap.size w wr) (fun _ _ _ i _ => n - (intOf i).toNat)
  case atStart => exact ⟨0, rfl, Nat.zero_le _, rfl, Below.refl _ _⟩
  case round =>
    obtain ⟨k, rfl, hk, heq, hb⟩ := hrel
    have k0 : (0 : Int) ≤ (k : Int) := by omega
    by_cases hlt : k < n
    · have k1 : (k : Int) < (n : Int) := by omega
      have e1 : IntKind.i64.wrap ((k : Int) + 1) = (k : Int) + 1 := IntWalk.i64_in _ (by omega)
      have h1 := H1.out; have h2 := H2.out
      rw [HN.out] at h1
      rw [HN2.out] at h2
      obtain ⟨b, off, ab, cb, al, cl, rfl, hbl, x0, x1, x2, hpx⟩ := h1.at_ k (by rw [HN.out]; exact hlt)
      obtain ⟨b', off', ab', cb', al', cl', rfl, hbl', y0, y1, y2, hpy⟩ := h2.at_ k (by rw [HN2.out]; exact hlt)
      have hst := Dm.eqIts_drop (l := l) (m := m) (k := k) (by rw [HN.out]; exact hlt) (by rw [HN2.out]; exact hlt)
      have x0 := (hb.cell (p := ⟨b, _, none⟩) hbl).trans x0
      have x1 := (hb.cell (p := ⟨b, _, none⟩) hbl).trans x1
      have x2 := (hb.cell (p := ⟨b, _, none⟩) hbl).trans x2
      have y0 := (hb.cell (p := ⟨b', _, none⟩) hbl').trans y0
      have y1 := (hb.cell (p := ⟨b', _, none⟩) hbl').trans y1
      have y2 := (hb.cell (p := ⟨b', _, none⟩) hbl').trans y2
      have hmem : l[k]?.getD Dm.no ∈ l := by rw [List.getElem?_eq_getElem (by rw [HN.out]; exact hlt)]; exact List.getElem_mem _
      obtain ⟨x, hx⟩ : ∃ y, l[k]?.getD Dm.no = y := ⟨_, rfl⟩
      obtain ⟨y, hy⟩ : ∃ y, m[k]?.getD Dm.no = y := ⟨_, rfl⟩
      rw [hx] at x0 x1 x2 hpx hst hmem
      rw [hy] at y0 y1 y2 hpy hst
      have hC := (HP.out x hmem) y ((wr.alloc (.cells #[.int .i64 x.tag, .slice ab x.b.length cb, .slice al x.l.length cl] 25)).alloc (.cells #[.int .i64 y.tag, .slice ab' y.b.length cb', .slice al' y.l.length cl'] 25)) _ _ _ _
        (((hpx.below hb).alloc _).alloc _) (((hpy.below hb).alloc _).alloc _)
      have hb2 : Below w.heap.size w ((wr.alloc (.cells #[.int .i64 x.tag, .slice ab x.b.length cb, .slice al x.l.length cl] 25)).alloc (.cells #[.int .i64 y.tag, .slice ab' y.b.length cb', .slice al' y.l.length cl'] 25)) := (hb.alloc hb.size _).alloc (by have := hb.size; simp; omega) _
      have l1 : b < wr.heap.size := Nat.lt_of_lt_of_le hbl hb.size
      have l2 : b' < wr.heap.size := Nat.lt_of_lt_of_le hbl' hb.size
      have HEq := Lib.hid heq; have HSt := Lib.hid hst; have HB2 := Lib.hid hb2
      clear hx hy hmem hpx hpy heq hst hb hb2 h1 h2
      obtain ⟨E, hE⟩ : ∃ E, Dm.eqIt x y = E := ⟨_, rfl⟩
      rw [hE] at hC
      have HE := Lib.hid hE
      clear hE
      go_wp2_with fail
      refine hC.mono ?_; rintro e w3 ⟨rfl, hb3⟩
      have hB3 := HB2.out.trans (hb3.mono HB2.out.size)
      clear hC hb3 x0 x1 x2 y0 y1 y2
      cases E with
      | false =>
        go_wp2_with fail
        go_ret
        exact ⟨by rw [HEq.out, HSt.out, HE.out]; rfl, hB3⟩
      | true =>
        have heq2 : Dm.eqIts l m = Dm.eqIts (l.drop (k + 1)) (m.drop (k + 1)) := by rw [HEq.out, HSt.out, HE.out]; rfl
        have HEq2 := Lib.hid heq2
        clear heq2
        go_wp2_with fail
        go_roundw
        case rel => exact ⟨k + 1, by go_num, by omega, HEq2.out, hB3⟩
        case measure => simp [intOf]; omega
    · obtain rfl : k = n := by omega
      have hE : Dm.eqIts l m = true := by
        rw [heq, List.drop_eq_nil_of_le (by rw [HN.out]; exact Nat.le_refl _), List.drop_eq_nil_of_le (by rw [HN2.out]; exact Nat.le_refl _)]; rfl
      clear heq
      go_wp2_with fail
      go_ret
      exact ⟨by rw [hE]; rfl, hb⟩

set_option maxRecDepth 100000 in
set_option maxHeartbeats 2000000 in
theorem same_of (x : Dm.It) (hP : ∀ y ∈ x.l, SameOn y) : SameOn x := by
  intro y w vb vl ub ul hx hy
  obtain ⟨ab, cb, rfl⟩ := hx.2.1.shape x.b.length rfl
  obtain ⟨al, cl, rfl⟩ := hx.2.2.shape
  obtain ⟨ab', cb', rfl⟩ := hy.2.1.shape y.b.length rfl
  obtain ⟨al', cl', rfl⟩ := hy.2.2.shape
  rw [Dm.eqIt_eq]
  have hb2 : ∀ o1 o2, Below w.heap.size w ((w.alloc o1).alloc o2) := fun o1 o2 => ((Below.refl _ w).alloc (Nat.le_refl _) o1).alloc (by simp) o2
  have hE := fun W (h : Below w.heap.size w W) => Equal_any _ _ x.b y.b W (hx.2.1.below h) (hy.2.1.below h)
  have hF := fun W (h : Below w.heap.size w W) => EqualFunc_any x.l y.l hP _ _ W (hx.2.2.below h) (hy.2.2.below h)
  have hE1 := hE _ (hb2 (.cells #[.int .i64 x.tag, .slice ab x.b.length cb, .slice al x.l.length cl] 25) (.cells #[.int .i64 y.tag, .slice ab' y.b.length cb', .slice al' y.l.length cl'] 25))
  have hF1 := hF _ (hb2 (.cells #[.int .i64 x.tag, .slice ab x.b.length cb, .slice al x.l.length cl] 25) (.cells #[.int .i64 y.tag, .slice ab' y.b.length cb', .slice al' y.l.length cl'] 25))
  have hB := hb2 (.cells #[.int .i64 x.tag, .slice ab x.b.length cb, .slice al x.l.length cl] 25) (.cells #[.int .i64 y.tag, .slice ab' y.b.length cb', .slice al' y.l.length cl'] 25)
  have HB := Lib.hid hB
  clear hE hF hb2 hB hx hy hP
  obtain ⟨T, hT⟩ : ∃ T, x.tag = T := ⟨_, rfl⟩
  obtain ⟨U, hU⟩ : ∃ U, y.tag = U := ⟨_, rfl⟩
  rw [hT, hU] at hE1 hF1 HB ⊢
  clear hT hU
  by_cases ht : T = U
  case neg =>
    clear hE1 hF1
    go_enter Tryd.func19, Tryd.ntmps19
    go_wp2_with fail
    go_ret
    exact ⟨by simp [ht], HB.out⟩
  subst ht
  rw [decide_eq_true rfl, Bool.true_and]
  obtain ⟨E, hE⟩ : ∃ E, decide (x.b = y.b) = E := ⟨_, rfl⟩
  obtain ⟨F, hF⟩ : ∃ F, Dm.eqIts x.l y.l = F := ⟨_, rfl⟩
  rw [hE] at hE1 ⊢
  rw [hF] at hF1 ⊢
  clear hE hF
  cases E with
  | false =>
    clear hF1
    go_enter Tryd.func19, Tryd.ntmps19
    go_wp2_with fail
    refine hE1.mono ?_; rintro e w' ⟨rfl, rfl⟩
    clear hE1
    go_wp2_with fail
    go_ret
    exact ⟨rfl, HB.out⟩
  | true =>
    go_enter Tryd.func19, Tryd.ntmps19
    go_wp2_with fail
    refine hE1.mono ?_; rintro e w' ⟨rfl, rfl⟩
    clear hE1
    go_wp2_with fail
    refine hF1.mono ?_; rintro e w' ⟨rfl, hb⟩
    clear hF1
    go_wp2_with fail
    go_ret
    exact ⟨rfl, HB.out.trans (hb.mono HB.out.size)⟩
theorem same_le : ∀ (n : Nat) (x : Dm.It), Dm.wt x ≤ n → SameOn x
  | 0, x, h => by have := Dm.wt_eq x; omega
  | n + 1, x, h => same_of x fun y hy => same_le n y (by have := Dm.wt_eq x; have := Dm.wts_mem hy; omega)
theorem Same_any (x : Dm.It) : SameOn x := same_le _ x (Nat.le_refl _)
end Go.Proofs.YtpmiihmhfagfoaaDoor
