/-
  The texts Cs Cp Cx Ko Kn Ku Ct Kv Ks Yr Kd in one. (Merged by wip/lay10m.py.)
-/
import Derived.Test.YtfdchdnkblmijaaGreatDoorYd
import Derived.Test.YtfdchdnkblmijaaGreatDoorYc
import Derived.Test.YtfdchdnkblmijaaGreatDoorOn
import Derived.Test.YtfdchdnkblmijaaGreatDoorYb
import Derived.Deep.CutBlock
import Derived.Test.YtfdchdnkblmijaaGreatDoorRs
import Derived.Test.YtfdchdnkblmijaaGreatDoorDk
import Derived.Maps.AppendAt
import Derived.Test.YtfdchdnkblmijaaGreatDoorCn
import Derived.BigQuiet

section
namespace Go.Proofs.YtfdchdnkblmijaaGreatDoor
open Go.RowKit

/-- The one block R. -/
def OneB (R : Nat) (k : Nat) : Prop := k = R
/-- All blocks but R are as they were. -/
abbrev ButB (R : Nat) (W V : World) : Prop := Only (OneB R) W V
theorem but_set {R : Nat} {W V : World} (h : ButB R W V) (i : Nat) (u : Value) : ButB R W (V.setCell ⟨R, i, none⟩ u) := Only.setCell (p := ⟨R, i, none⟩) h (.inl rfl) u
theorem but_stp {R : Nat} {W V U : World} (h : ButB R W V) (s : Below V.heap.size V U) : ButB R W U := h.trans (.of_below s _)
theorem but_of {R : Nat} {W V : World} (h : Below W.heap.size W V) : ButB R W V := .of_below h _
theorem but_below {R B : Nat} {W V : World} (h : ButB R W V) (hB : B ≤ W.heap.size) (hR : B ≤ R) : Below B W V := h.to_below hB fun k hk e => by have e' : k = R := e; omega
theorem Svs.but {W V : World} {R : Nat} {t : TypeId} {a : Option Addr} {n c : Nat} {e : Int} {v : Value} {ls : List Sm.Sv} (h : Svs W v ls) (hd : Duo W R t (.slice a n c) (.int .i64 e)) (hb : ButB R W V) (hrow : ∀ (u : Value) (l : List Int), Row .u8 W u l → Row .u8 V u l) : Svs V v ls := by
  obtain ⟨a', cap, h1, h2, h3, h0, h5⟩ := h
  refine ⟨a', cap, h1, h2, h3, h0, fun hne => ?_⟩
  obtain ⟨b, off, e', hlt, hc⟩ := h5 hne
  have hn : b ≠ R := by
    rintro rfl
    obtain ⟨vb, _, x0, x1, x2, x3⟩ := hc 0 (List.length_pos_iff.2 hne)
    unfold World.cell? at x2
    simp only at x2
    rw [show W.heap[b]? = _ from hd] at x2
    simp at x2
  have hk : ∀ i u, W.cell? ⟨b, i, none⟩ = some u → V.cell? ⟨b, i, none⟩ = some u := fun i u hu => (hb.cell (p := ⟨b, i, none⟩) hlt hn).trans hu
  refine ⟨b, off, e', Nat.lt_of_lt_of_le hlt hb.size, fun i hi => ?_⟩
  obtain ⟨vb, r, x0, x1, x2, x3⟩ := hc i hi
  exact ⟨vb, hrow _ _ r, hk _ _ x0, hk _ _ x1, hk _ _ x2, hk _ _ x3⟩
/-- There is no room for an item in R, and no byte. -/
def Slim (W : World) (R : Nat) : Prop := ∀ i u, W.cell? ⟨R, i, none⟩ = some u → i < 2 ∧ ∀ x, u ≠ .int .u8 x
theorem slim_of {W : World} {R : Nat} {t : TypeId} {a : Option Addr} {n c : Nat} {e : Int} (h : Duo W R t (.slice a n c) (.int .i64 e)) : Slim W R := by
  intro i u hu
  have hc := h.cell0
  have h1 := h.cell1
  match i with
  | 0 => rw [hc] at hu; cases hu; exact ⟨by decide, fun x h => by cases h⟩
  | 1 => rw [h1] at hu; cases hu; exact ⟨by decide, fun x h => by cases h⟩
  | i + 2 =>
    exfalso
    unfold World.cell? at hu
    simp only at hu
    rw [show W.heap[R]? = _ from h] at hu
    simp at hu
theorem Row.but {W V : World} {R : Nat} {v : Value} {l : List Int} (h : Row .u8 W v l) (hs : Slim W R) (hb : ButB R W V) : Row .u8 V v l := by
  obtain ⟨a, cap, h1, h2, h3, h0, h4, h5⟩ := h
  refine ⟨a, cap, h1, h2, h3, h0, h4, fun hne => ?_⟩
  obtain ⟨b, off, e, hlt, hc⟩ := h5 hne
  have hR : b ≠ R := by
    rintro rfl
    exact (hs _ _ (hc 0 (List.length_pos_iff.2 hne))).2 _ rfl
  exact ⟨b, off, e, Nat.lt_of_lt_of_le hlt hb.size, fun i hi => (hb.cell (p := ⟨b, off + i, none⟩) hlt hR).trans (hc i hi)⟩
mutual
theorem ItemAt.but {W V : World} {R : Nat} (hs : Slim W R) (hb : ButB R W V) : ∀ (x : Dm.It) (b o : Nat), ItemAt W b o x → ItemAt V b o x
  | .mk t bs l, b, o, h => by
    unfold ItemAt at h ⊢
    obtain ⟨vb, a, c, h0, h1, h2, hw, hr, k1, k2, k3, k4⟩ := h
    have hne : b ≠ R := by
      rintro rfl
      have := (hs _ _ h2).1
      omega
    have hc : ∀ i u, W.cell? ⟨b, i, none⟩ = some u → V.cell? ⟨b, i, none⟩ = some u := fun i u e =>
      (hb.cell (p := ⟨b, i, none⟩) (World.block_lt_of_cell? W _ e) hne).trans e
    refine ⟨vb, a, c, hc _ _ h0, hc _ _ h1, hc _ _ h2, hw, hr.but hs hb, k1, k2, k3, fun hn => ?_⟩
    obtain ⟨b', o', e, hl', hi⟩ := k4 hn
    exact ⟨b', o', e, Nat.lt_of_lt_of_le hl' hb.size, ItemsAt.but hs hb l b' o' hi⟩
theorem ItemsAt.but {W V : World} {R : Nat} (hs : Slim W R) (hb : ButB R W V) : ∀ (l : List Dm.It) (b o : Nat), ItemsAt W b o l → ItemsAt V b o l
  | [], b, o, _ => by unfold ItemsAt; trivial
  | x :: l, b, o, h => by
    unfold ItemsAt at h ⊢
    exact ⟨ItemAt.but hs hb x b o h.1, ItemsAt.but hs hb l b (o + 3) h.2⟩
end
theorem ItsV.but {W V : World} {R : Nat} {v : Value} {l : List Dm.It} (h : ItsV W v l) (hs : Slim W R) (hb : ButB R W V) : ItsV V v l := by
  obtain ⟨a, c, e, h1, h2, h3, h4⟩ := h
  refine ⟨a, c, e, h1, h2, h3, fun hne => ?_⟩
  obtain ⟨b, o, e2, hlt, hi⟩ := h4 hne
  exact ⟨b, o, e2, Nat.lt_of_lt_of_le hlt hb.size, ItemsAt.but hs hb l b o hi⟩
/-- The items but the first one. -/
theorem ItsV.tail {W : World} {b o n c : Nat} {x : Dm.It} {l : List Dm.It} (h : ItsV W (.slice (some ⟨b, o, none⟩) n c) (x :: l)) (hc : 1 < c) : ItsV W (.slice (some ⟨b, o + 3, none⟩) (n - 1) (c - 1)) l := by
  obtain ⟨a, c', e, h1, h2, h3, h4⟩ := h
  cases e
  obtain ⟨b', o', e2, hlt, hi⟩ := h4 (by simp)
  cases e2
  unfold ItemsAt at hi
  refine ⟨some ⟨b, o + 3, none⟩, c - 1, by simp, by simp at h1; omega, by omega, (fun h => by cases h), fun _ => ⟨b, o + 3, rfl, hlt, hi.2⟩⟩
theorem ItsV.tail_all {W : World} {a : Option Addr} {n c : Nat} {x : Dm.It} {l : List Dm.It} (h : ItsV W (.slice a n c) (x :: l)) (hc : c = 1) : l = [] ∧ n = 1 ∧ ItsV W (.slice a 0 0) l := by
  obtain ⟨a', c', e, h1, h2, h3, h4⟩ := h
  cases e
  subst hc
  simp at h1
  have hl : l = [] := h1
  subst hl
  exact ⟨rfl, rfl, a, 0, rfl, Nat.le_refl _, Nat.zero_le _, fun _ => rfl, fun h => absurd rfl h⟩
end Go.Proofs.YtfdchdnkblmijaaGreatDoor
end

section
namespace Go.Proofs.YtfdchdnkblmijaaGreatDoor

/-- The bytes of a number, read and written again. -/
theorem low_fold : ∀ (r : List Int) (q : Int), (∀ b ∈ r, byte b) → r.length ≤ 8 → lowB (foldI q r) r.length = r ∧ restI (foldI q r) r.length = q
  | [], q, _, _ => ⟨by unfold lowB; rw [List.drop_eq_nil_of_le (by rw [be8_len]; simp)], restI_zero q⟩
  | b :: r, q, hb, hl => by
    have hb0 := hb b (by simp)
    unfold byte at hb0
    have hl' : r.length < 8 := by have h := hl; simp at h; omega
    obtain ⟨h1, h2⟩ := low_fold r (256 * q + b) (fun z hz => hb z (by simp [hz])) (by omega)
    show lowB (foldI (256 * q + b) r) (r.length + 1) = b :: r ∧ restI (foldI (256 * q + b) r) (r.length + 1) = q
    rw [lowB_succ _ hl', restI_succ, h1, h2]
    exact ⟨by congr 1; omega, by omega⟩
theorem intB_numI {b : List Int} (hb : ∀ x ∈ b, byte x) (hl : Dm.least b = true) : intB (numI b) = b := by
  obtain ⟨l1, l8⟩ := least_len hl
  match b, hb, hl, l1, l8 with
  | x :: r, hb, hl, l1, l8 =>
    have hx := hb x (by simp)
    unfold byte at hx
    have hl' : r.length < 8 := by have h := l8; simp at h; omega
    obtain ⟨h1, h2⟩ := low_fold r (signI x) (fun z hz => hb z (by simp [hz])) (by omega)
    have e1 : lowB (numI (x :: r)) (r.length + 1) = x :: r := by
      show lowB (foldI (signI x) r) (r.length + 1) = x :: r
      rw [lowB_succ _ hl', h1, h2]
      congr 1
      unfold signI; split <;> omega
    have e2 : restI (numI (x :: r)) (r.length + 1) = if x < 128 then 0 else -1 := by
      show restI (foldI (signI x) r) (r.length + 1) = _
      rw [restI_succ, h2]
      unfold signI; split <;> omega
    have hs : stopI (numI (x :: r)) (r.length + 1) := by
      unfold stopI
      rw [e1, e2]; rfl
    rw [intB_low _ (by omega) (by omega) hs, e1]
    by_cases h0 : r.length = 0
    · exact .inl (by omega)
    · refine .inr fun h => ?_
      rw [show r.length + 1 - 1 = r.length by omega] at h
      have := ((stop_step _ (by omega) hl').1 h).1
      rw [e1, hl] at this; cases this
theorem int_range {b : List Int} (hb : ∀ x ∈ b, byte x) (hl : Dm.least b = true) : -9223372036854775808 ≤ numI b ∧ numI b ≤ 9223372036854775807 := by
  obtain ⟨l1, l8⟩ := least_len hl
  match b, hb, hl, l1, l8 with
  | x :: r, hb, hl, l1, l8 =>
    have hx := hb x (by simp)
    unfold byte at hx
    have h := foldI_range r (signI x) (fun z hz => hb z (by simp [hz]))
    have hr : r.length ≤ 7 := by simpa using l8
    have hp : (0 : Int) < 256 ^ r.length := Int.pow_pos (by decide)
    have hq : (256 : Int) ^ r.length ≤ 72057594037927936 := by
      have : (256 : Nat) ^ r.length ≤ 256 ^ 7 := Nat.pow_le_pow_right (by decide) hr
      have h2 : ((256 : Nat) ^ r.length : Nat) ≤ (72057594037927936 : Nat) := this
      have h3 : (((256 : Nat) ^ r.length : Nat) : Int) = (256 : Int) ^ r.length := by simp
      omega
    show -9223372036854775808 ≤ foldI (signI x) r ∧ foldI (signI x) r ≤ 9223372036854775807
    have s1 : -128 ≤ signI x := by unfold signI; split <;> omega
    have s2 : signI x + 1 ≤ 128 := by unfold signI; split <;> omega
    have m1 : -128 * 256 ^ r.length ≤ signI x * 256 ^ r.length := Int.mul_le_mul_of_nonneg_right s1 (Int.le_of_lt hp)
    have m2 : (signI x + 1) * 256 ^ r.length ≤ 128 * 256 ^ r.length := Int.mul_le_mul_of_nonneg_right s2 (Int.le_of_lt hp)
    generalize (256 : Int) ^ r.length = P at *
    omega

namespace Cm
/-- The items of a number, of bytes, of what is true. -/
def inI (n : Int) : Dm.It := .mk 2 (intB n) []
def inO (b : List Int) : Dm.It := .mk 4 b []
def inT : Dm.It := .mk 1 [255] []
def item (day : Int) (ls : List Sm.Sv) : Dm.It := .mk 48 [] (inI day :: ls.map fun s : Sm.Sv => inO s.b)
/-- What leads from one to another one. -/
def stepO (xs : List Sm.Sv) (i : Nat) (s : Sm.Sv) : Dm.It := if i < xs.length ∧ (xs[i]?.getD nil).b = s.b then inT else inO s.b
def stepsO (xs : List Sm.Sv) : Nat → List Sm.Sv → List Dm.It
  | _, [] => []
  | i, s :: l => stepO xs i s :: stepsO xs (i + 1) l
def stepItem (da : Int) (xs : List Sm.Sv) (db : Int) (bs : List Sm.Sv) : Dm.It := .mk 48 [] (inI da :: inI db :: stepsO xs 0 bs)
/-- The items that bytes are, alone. -/
def items (b : List Int) (least : Nat) : Except Int (List Dm.It) :=
  match getAt b 0 with
  | .error e => .error e
  | .ok (x, n) => if n = b.length then (if asE x 48 = 0 then (if x.l.length < least then .error 71 else .ok x.l) else .error (asE x 48)) else .error 71
def asI (x : Dm.It) : Except Int Int := if asE x 2 = 0 then .ok (numI x.b) else .error (asE x 2)
def asO (x : Dm.It) : Except Int (List Int) := if asE x 4 = 0 then .ok x.b else .error (asE x 4)
/-- The bytes of a level that leads on. -/
def asA (xs : List Sm.Sv) (i : Nat) (x : Dm.It) : Except Int (List Int) :=
  if x.tag = 1 then (if asE x 1 = 0 then (if x.b = [255] ∧ i < xs.length then .ok (xs[i]?.getD nil).b else .error 71) else .error (asE x 1)) else asO x
def levels (f : Nat → Dm.It → Except Int (List Int)) : Nat → List Dm.It → Except Int (List (List Int))
  | _, [] => .ok []
  | i, x :: l =>
    match f i x with
    | .error e => .error e
    | .ok b =>
      match levels f (i + 1) l with
      | .error e => .error e
      | .ok bs => .ok (b :: bs)
def sal (day : Int) (i : Nat) : Int := IntKind.i64.wrap (IntKind.i64.wrap (16 * day) + i)
def lvOf (day : Int) (i : Nat) (b : List Int) : Sm.Sv := ⟨8 * (b.length : Int), 3, sal day i, b⟩
def lvs (day : Int) : Nat → List (List Int) → List Sm.Sv
  | _, [] => []
  | i, b :: l => lvOf day i b :: lvs day (i + 1) l
def rest (f : Nat → Dm.It → Except Int (List Int)) (day : Int) (l : List Dm.It) : Except Int (Int × List Sm.Sv) :=
  match levels f 0 l with
  | .error e => .error e
  | .ok bs => if chk day (lvs day 0 bs) = 0 then .ok (day, lvs day 0 bs) else .error 71
def get (b : List Int) : Except Int (Int × List Sm.Sv) :=
  match items b 1 with
  | .error e => .error e
  | .ok l =>
    match asI (l[0]?.getD Dm.no) with
    | .error e => .error e
    | .ok day => rest (fun _ => asO) day (l.drop 1)
def apply (da : Int) (xs : List Sm.Sv) (d : List Int) : Except Int (Int × List Sm.Sv) :=
  if chk da xs ≠ 0 then .error (chk da xs) else
  match items d 2 with
  | .error e => .error e
  | .ok l =>
    match asI (l[0]?.getD Dm.no) with
    | .error e => .error e
    | .ok f =>
      match asI (l[1]?.getD Dm.no) with
      | .error e => .error e
      | .ok day => if f = da then rest (asA xs) day (l.drop 2) else .error 1

theorem lvs_len (day : Int) : ∀ (i : Nat) (l : List (List Int)), (lvs day i l).length = l.length
  | _, [] => rfl
  | i, b :: l => by simp [lvs, lvs_len day (i + 1) l]
theorem lvs_at (day : Int) : ∀ (i : Nat) (l : List (List Int)) (k : Nat), k < l.length → (lvs day i l)[k]?.getD nil = lvOf day (i + k) (l[k]?.getD [])
  | _, [], k, h => by simp at h
  | i, b :: l, 0, _ => by simp [lvs]
  | i, b :: l, k + 1, h => by
    have := lvs_at day (i + 1) l k (by simpa using h)
    rw [show i + (k + 1) = i + 1 + k by omega]
    simpa [lvs] using this
theorem lvs_snoc (day : Int) : ∀ (i : Nat) (l : List (List Int)) (b : List Int), lvs day i (l ++ [b]) = lvs day i l ++ [lvOf day (i + l.length) b]
  | i, [], b => by simp [lvs]
  | i, c :: l, b => by
    have := lvs_snoc day (i + 1) l b
    show lvOf day i c :: lvs day (i + 1) (l ++ [b]) = _
    rw [this, show i + (c :: l).length = i + 1 + l.length by simp; omega]; rfl
theorem sal_day {day : Int} (hd : dated day) {i : Nat} (hi : i ≤ 16) : sal day i = 16 * day + i := by
  unfold dated at hd
  unfold sal
  rw [IntWalk.i64_in (16 * day) (by omega), IntWalk.i64_in _ (by omega)]
theorem chk_zero {day : Int} {ls : List Sm.Sv} : chk day ls = 0 ↔ good day ls := by
  unfold chk
  by_cases h : 16 < ls.length
  · rw [if_pos h]; exact ⟨fun h => absurd h (by decide), fun h2 => by have := h2.1; omega⟩
  · rw [if_neg h]
    by_cases h2 : good day ls
    · rw [if_pos h2]; exact ⟨fun _ => h2, fun _ => rfl⟩
    · rw [if_neg h2]; exact ⟨fun h => absurd h (by decide), fun h => absurd h h2⟩
theorem chk_cases (day : Int) (ls : List Sm.Sv) : chk day ls = 0 ∨ chk day ls = 1 ∨ chk day ls = 2 := by
  unfold chk
  split
  · exact .inr (.inr rfl)
  · split
    · exact .inl rfl
    · exact .inr (.inl rfl)
theorem goodAt_lv {day : Int} {i : Nat} {s : Sm.Sv} (hd : dated day) (hi : i ≤ 16) (h : goodAt day i s) : lvOf day i s.b = s := by
  obtain ⟨ho, h3, h4⟩ := h
  unfold Sm.ok at ho
  cases s with
  | mk bits hashes salt b =>
    simp only at ho h3 h4
    unfold lvOf
    rw [sal_day hd hi, h3, h4]
    congr 1
    show 8 * ((b.length : Nat) : Int) = bits
    omega
theorem lvs_good {day : Int} (hd : dated day) : ∀ (ls : List Sm.Sv) (i : Nat), i + ls.length ≤ 16 → (∀ k, k < ls.length → goodAt day (i + k) (ls[k]?.getD nil)) → lvs day i (ls.map (·.b)) = ls
  | [], _, _, _ => rfl
  | s :: l, i, h16, h => by
    have h0 := h 0 (by simp)
    have hr := lvs_good hd l (i + 1) (by simp at h16; omega) (fun k hk => by
      have := h (k + 1) (by simpa using hk)
      rw [show i + 1 + k = i + (k + 1) by omega]
      simpa using this)
    show lvOf day i s.b :: lvs day (i + 1) (l.map (·.b)) = s :: l
    rw [hr, goodAt_lv hd (by omega) (by simpa using h0)]
theorem day_range {day : Int} (h : dated day) : -9223372036854775808 ≤ day ∧ day ≤ 9223372036854775807 := by unfold dated at h; omega
theorem may_inI {n : Int} (h : -9223372036854775808 ≤ n ∧ n ≤ 9223372036854775807) (d : Nat) (hd : 1 ≤ d) : Dm.may d (inI n) = true := by
  unfold inI Dm.may
  rw [show Dm.mayB 2 (intB n) = Dm.least (intB n) from rfl, least_intB n h.1 h.2, decide_eq_true hd]; rfl
theorem may_inO (b : List Int) (d : Nat) (hd : 1 ≤ d) : Dm.may d (inO b) = true := by
  unfold inO Dm.may
  rw [show Dm.mayB 4 b = true from rfl, decide_eq_true hd]; rfl
theorem may_inT (d : Nat) (hd : 1 ≤ d) : Dm.may d inT = true := by
  unfold inT Dm.may
  rw [show Dm.mayB 1 [255] = true from rfl, decide_eq_true hd]; rfl
theorem mays_of {d : Nat} : ∀ {l : List Dm.It}, (∀ x ∈ l, Dm.may d x = true) → Dm.mays d l = true
  | [], _ => by simp [Dm.mays]
  | x :: l, h => by unfold Dm.mays; rw [h x (by simp), mays_of (fun y hy => h y (by simp [hy]))]; rfl
theorem of_mays {d : Nat} : ∀ {l : List Dm.It}, Dm.mays d l = true → ∀ x ∈ l, Dm.may d x = true
  | [], _, x, hx => by cases hx
  | y :: l, h, x, hx => by
    unfold Dm.mays at h
    rw [Bool.and_eq_true] at h
    rcases List.mem_cons.1 hx with rfl | hx
    · exact h.1
    · exact of_mays h.2 x hx
theorem may_seq {l : List Dm.It} (h : ∀ x ∈ l, Dm.may 7 x = true) : Dm.may 8 (.mk 48 [] l) = true := by
  unfold Dm.may
  rw [show (8 - 1 : Nat) = 7 from rfl, mays_of h]; rfl
theorem may_up {d : Nat} {x : Dm.It} (h : Dm.may d x = true) (hd : d ≤ 8) : Dm.may 8 x = true := by
  rw [Dm.may_form, Bool.and_eq_true] at h ⊢
  exact ⟨h.1, decide_eq_true (by have := of_decide_eq_true h.2; omega)⟩
theorem asI_inI {n : Int} (h : -9223372036854775808 ≤ n ∧ n ≤ 9223372036854775807) : asI (inI n) = .ok n := by
  unfold asI
  rw [asE_may (x := inI n) (t := 2) rfl, may_inI h 8 (by decide)]
  show (if (0 : Int) = 0 then Except.ok (numI (intB n)) else _) = _
  rw [if_pos rfl, numI_intB n h.1 h.2]
theorem asO_inO (b : List Int) : asO (inO b) = .ok b := by
  unfold asO
  rw [asE_may (x := inO b) (t := 4) rfl, may_inO b 8 (by decide)]; rfl
theorem asI_ok {x : Dm.It} {n : Int} (hm : ∀ y ∈ x.b, byte y) (h : asI x = .ok n) : x = inI n ∧ -9223372036854775808 ≤ n ∧ n ≤ 9223372036854775807 := by
  unfold asI asE at h
  by_cases ht : x.tag = 2
  · rw [if_pos ht] at h
    cases hmay : Dm.may 8 x with
    | false => rw [hmay] at h; cases h
    | true =>
      rw [hmay] at h
      have h' : numI x.b = n := by simpa using h
      cases x with
      | mk t b l =>
        simp only [Dm.It.tag] at ht
        subst ht
        unfold Dm.may at hmay
        simp only [Bool.and_eq_true] at hmay
        have hleast : Dm.least b = true := hmay.1.1.2
        have hnil : l = [] := by
          have := hmay.1.2
          simpa using this
        subst hnil
        subst h'
        refine ⟨?_, int_range hm hleast⟩
        show Dm.It.mk 2 b [] = .mk 2 (intB (numI b)) []
        rw [intB_numI (b := b) hm hleast]
  · rw [if_neg ht] at h; cases h
theorem asO_ok {x : Dm.It} {b : List Int} (h : asO x = .ok b) : x = inO b := by
  unfold asO asE at h
  by_cases ht : x.tag = 4
  · rw [if_pos ht] at h
    cases hmay : Dm.may 8 x with
    | false => rw [hmay] at h; cases h
    | true =>
      rw [hmay] at h
      have h' : x.b = b := by simpa using h
      cases x with
      | mk t b' l =>
        simp only [Dm.It.tag] at ht
        subst ht
        unfold Dm.may at hmay
        simp only [Bool.and_eq_true] at hmay
        have hnil : l = [] := by
          have := hmay.1.2
          simpa using this
        subst hnil
        subst h'
        rfl
  · rw [if_neg ht] at h; cases h

/-- Of an item's own bytes, alone, it is got again. -/
theorem items_bytes {l : List Dm.It} {least : Nat} (hm : ∀ x ∈ l, Dm.may 7 x = true) (hlen : Dm.len (.mk 48 [] l) ≤ 8192) (hle : least ≤ l.length) : items (Dm.bytes (.mk 48 [] l)) least = .ok l := by
  have hmay := may_seq hm
  have hg := Dm.get_bytes (.mk 48 [] l) 8 [] hmay hlen
  rw [List.append_nil] at hg
  have ha : getAt (Dm.bytes (.mk 48 [] l)) 0 = .ok (.mk 48 [] l, (Dm.bytes (.mk 48 [] l)).length) := by
    unfold getAt
    rw [if_neg (by omega), show (0 : Int).toNat = 0 from rfl, List.drop_zero, hg]
    rfl
  unfold items
  rw [ha]
  show (if (Dm.bytes (.mk 48 [] l)).length = (Dm.bytes (.mk 48 [] l)).length then _ else _) = _
  rw [if_pos rfl, asE_may (x := .mk 48 [] l) (t := 48) rfl, hmay]
  show (if (0 : Int) = 0 then (if l.length < least then _ else Except.ok l) else _) = _
  rw [if_pos rfl, if_neg (by omega)]
mutual
theorem bytes_in : ∀ (x : Dm.It), (∀ y ∈ Dm.bytes x, byte y) → ∀ y ∈ x.b, byte y
  | .mk t b l, h => fun y hy => h y (by unfold Dm.bytes; simp only [List.mem_cons, List.mem_append]; exact .inr (.inr (.inl hy)))
theorem bytes_ins : ∀ (l : List Dm.It), (∀ y ∈ Dm.cat l, byte y) → ∀ x ∈ l, ∀ y ∈ x.b, byte y
  | [], _, x, hx, _, _ => by cases hx
  | z :: l, h, x, hx, y, hy => by
    unfold Dm.cat at h
    rcases List.mem_cons.1 hx with rfl | hx
    · exact bytes_in x (fun y hy => h y (List.mem_append_left _ hy)) y hy
    · exact bytes_ins l (fun y hy => h y (List.mem_append_right _ hy)) x hx y hy
end
theorem items_ok {b : List Int} {least : Nat} {l : List Dm.It} (hb : ∀ y ∈ b, byte y) (h : items b least = .ok l) :
    Dm.bytes (.mk 48 [] l) = b ∧ Dm.len (.mk 48 [] l) ≤ 8192 ∧ (∀ x ∈ l, Dm.may 7 x = true) ∧ (∀ x ∈ l, ∀ y ∈ x.b, byte y) ∧ least ≤ l.length := by
  unfold items at h
  split at h
  · cases h
  · next x n hg =>
    split at h
    · next hn =>
      split at h
      · next he =>
        split at h
        · cases h
        · next hle =>
          cases h
          unfold getAt at hg
          rw [if_neg (by omega), show (0 : Int).toNat = 0 from rfl, List.drop_zero] at hg
          split at hg
          · cases hg
          · next y r hgg =>
            cases hg
            obtain ⟨h1, h2, h3⟩ := Dm.get_only 8 b x r (fun y hy => by have := hb y hy; unfold byte at this; exact ⟨this.1, by omega⟩) hgg
            have hr : r = [] := by
              have hlen := congrArg List.length h2
              rw [List.length_append, Dm.bytes_len] at hlen
              have := Dm.len_pos x
              exact List.eq_nil_of_length_eq_zero (by omega)
            subst hr
            rw [List.append_nil] at h2
            have ht : x.tag = 48 := by
              apply Classical.byContradiction
              intro h9
              rw [asE_ne h9] at he; cases he
            cases x with
            | mk t xb xl =>
              simp only [Dm.It.tag] at ht
              subst ht
              have hxb : xb = [] := by
                have := may_b h1
                have h9 : xb.isEmpty = true := this
                simpa using h9
              subst hxb
              have hmays : Dm.mays 7 xl = true := by
                unfold Dm.may at h1
                rw [Bool.and_eq_true] at h1
                exact h1.2
              refine ⟨h2, h3, of_mays hmays, ?_, Nat.le_of_not_lt hle⟩
              have hcat : ∀ y ∈ Dm.cat xl, byte y := fun y hy => hb y (by
                rw [← h2]; unfold Dm.bytes
                simp only [List.mem_cons, List.mem_append]; exact .inr (.inr (.inr hy)))
              exact bytes_ins xl hcat
      · cases h
    · cases h

theorem levels_oct : ∀ (bs : List (List Int)) (i : Nat), levels (fun _ => asO) i (bs.map inO) = .ok bs
  | [], _ => rfl
  | b :: l, i => by
    show (match asO (inO b) with | .error e => Except.error e | .ok b' => match levels (fun _ => asO) (i + 1) (l.map inO) with | .error e => .error e | .ok bs => .ok (b' :: bs)) = _
    rw [asO_inO, levels_oct l (i + 1)]
theorem oct_levels : ∀ (l : List Dm.It) (i : Nat) (bs : List (List Int)), levels (fun _ => asO) i l = .ok bs → l = bs.map inO
  | [], _, bs, h => by
    unfold levels at h; cases h; rfl
  | x :: l, i, bs, h => by
    unfold levels at h
    split at h
    · cases h
    · next b hb =>
      split at h
      · cases h
      · next bs' hbs =>
        cases h
        rw [asO_ok hb, oct_levels l (i + 1) bs' hbs]; rfl
/-- What was written is read. -/
theorem put_get {day : Int} {ls : List Sm.Sv} (hc : chk day ls = 0) (hl : Dm.len (item day ls) ≤ 8192) : get (Dm.bytes (item day ls)) = .ok (day, ls) := by
  have hg := chk_zero.1 hc
  have hm : ∀ x ∈ (inI day :: ls.map fun s : Sm.Sv => inO s.b), Dm.may 7 x = true := by
    intro x hx
    rcases List.mem_cons.1 hx with rfl | hx
    · exact may_inI (day_range hg.2.1) 7 (by decide)
    · obtain ⟨s, -, rfl⟩ := List.mem_map.1 hx
      exact may_inO _ 7 (by decide)
  unfold get
  rw [show item day ls = .mk 48 [] (inI day :: ls.map fun s : Sm.Sv => inO s.b) from rfl, items_bytes hm hl (by simp)]
  show (match asI (inI day) with | .error e => _ | .ok d => rest (fun _ => asO) d (ls.map fun s : Sm.Sv => inO s.b)) = _
  rw [asI_inI (day_range hg.2.1)]
  show rest (fun _ => asO) day (ls.map fun s : Sm.Sv => inO s.b) = _
  have e : (ls.map fun s : Sm.Sv => inO s.b) = (ls.map (·.b)).map inO := by rw [List.map_map]; rfl
  have e2 : lvs day 0 (ls.map (·.b)) = ls := lvs_good hg.2.1 ls 0 (by have := hg.1; omega) (fun k hk => by rw [Nat.zero_add]; exact hg.2.2 k hk)
  unfold rest
  rw [e, levels_oct]
  show (if chk day (lvs day 0 (ls.map (·.b))) = 0 then Except.ok (day, lvs day 0 (ls.map (·.b))) else _) = _
  rw [e2, if_pos hc]
/-- What is read was written. -/
theorem get_put {b : List Int} {day : Int} {ls : List Sm.Sv} (hb : ∀ y ∈ b, byte y) (h : get b = .ok (day, ls)) : chk day ls = 0 ∧ Dm.bytes (item day ls) = b ∧ Dm.len (item day ls) ≤ 8192 := by
  unfold get at h
  split at h
  · cases h
  · next l hl =>
    obtain ⟨h1, h2, h3, h4, h5⟩ := items_ok hb hl
    match l, h5 with
    | x :: l, _ =>
      split at h
      · cases h
      · next d hd =>
        have hx := asI_ok (x := x) (h4 x (by simp)) hd
        unfold rest at h
        split at h
        · cases h
        · next bs hbs =>
          split at h
          · next hchk =>
            cases h
            have hls := oct_levels _ _ _ hbs
            have hg := chk_zero.1 hchk
            have e : Dm.It.mk 48 [] (x :: l) = item day (lvs day 0 bs) := by
              unfold item
              have hls' : l = bs.map inO := hls
              have hm : ∀ (i : Nat) (bs : List (List Int)), ((lvs day i bs).map fun s : Sm.Sv => inO s.b) = bs.map inO := by
                intro i bs
                induction bs generalizing i with
                | nil => rfl
                | cons b t ih => show inO b :: _ = inO b :: _; rw [ih (i + 1)]
              rw [hm 0 bs, ← hls', hx.1]
            rw [e] at h1 h2
            exact ⟨hchk, h1, h2⟩
          · cases h
theorem levels_step (xs : List Sm.Sv) : ∀ (ls : List Sm.Sv) (i : Nat), levels (asA xs) i (stepsO xs i ls) = .ok (ls.map (·.b))
  | [], _ => rfl
  | s :: l, i => by
    have hr := levels_step xs l (i + 1)
    have h0 : asA xs i (stepO xs i s) = .ok s.b := by
      unfold stepO
      by_cases h : i < xs.length ∧ (xs[i]?.getD nil).b = s.b
      · rw [if_pos h]
        unfold asA
        rw [if_pos (show inT.tag = 1 from rfl), asE_may (x := inT) (t := 1) rfl, may_inT 8 (by decide), if_pos (show (if true = true then (0 : Int) else 71) = 0 from rfl), if_pos ⟨rfl, h.1⟩, h.2]
      · rw [if_neg h]
        unfold asA
        rw [if_neg (show ¬ (inO s.b).tag = 1 by show ¬ (4 : Int) = 1; decide), asO_inO]
    show (match asA xs i (stepO xs i s) with | .error e => Except.error e | .ok b' => match levels (asA xs) (i + 1) (stepsO xs (i + 1) l) with | .error e => .error e | .ok bs => .ok (b' :: bs)) = _
    rw [h0, hr]; rfl
theorem may_stepO (xs : List Sm.Sv) (i : Nat) (s : Sm.Sv) : Dm.may 7 (stepO xs i s) = true := by
  unfold stepO
  split
  · exact may_inT 7 (by decide)
  · exact may_inO _ 7 (by decide)
theorem may_stepsO (xs : List Sm.Sv) : ∀ (ls : List Sm.Sv) (i : Nat), ∀ x ∈ stepsO xs i ls, Dm.may 7 x = true
  | [], _, x, h => by cases h
  | s :: l, i, x, h => by
    rcases List.mem_cons.1 h with rfl | h
    · exact may_stepO xs i s
    · exact may_stepsO xs l (i + 1) x h
theorem may_steps {da db : Int} {xs bs : List Sm.Sv} (ha : good da xs) (hb : good db bs) : ∀ x ∈ (inI da :: inI db :: stepsO xs 0 bs), Dm.may 7 x = true := by
  intro x hx
  rcases List.mem_cons.1 hx with rfl | hx
  · exact may_inI (day_range ha.2.1) 7 (by decide)
  · rcases List.mem_cons.1 hx with rfl | hx
    · exact may_inI (day_range hb.2.1) 7 (by decide)
    · exact may_stepsO xs bs 0 x hx
theorem may_items {day : Int} {ls : List Sm.Sv} (h : good day ls) : Dm.may 8 (item day ls) = true := may_seq fun x hx => by
  rcases List.mem_cons.1 hx with rfl | hx
  · exact may_inI (day_range h.2.1) 7 (by decide)
  · obtain ⟨s, -, rfl⟩ := List.mem_map.1 hx
    exact may_inO _ 7 (by decide)
/-- What leads there leads there; from a cascade of another day it leads nowhere. -/
theorem step_apply {da db dc : Int} {xs bs cs : List Sm.Sv} (ha : good da xs) (hb : good db bs) (hc : good dc cs) (hl : Dm.len (stepItem da xs db bs) ≤ 8192) :
    apply da xs (Dm.bytes (stepItem da xs db bs)) = .ok (db, bs) ∧ (dc ≠ da → apply dc cs (Dm.bytes (stepItem da xs db bs)) = .error 1) := by
  have hi := items_bytes (least := 2) (may_steps ha hb) hl (by simp)
  have hi' : items (Dm.bytes (stepItem da xs db bs)) 2 = .ok (inI da :: inI db :: stepsO xs 0 bs) := hi
  constructor
  · unfold apply
    rw [if_neg (by rw [chk_zero.2 ha]; simp), hi']
    show (match asI (inI da) with | .error e => _ | .ok f => match asI (inI db) with | .error e => _ | .ok day => if f = da then rest (asA xs) day (stepsO xs 0 bs) else _) = _
    rw [asI_inI (day_range ha.2.1), asI_inI (day_range hb.2.1)]
    show (if da = da then rest (asA xs) db (stepsO xs 0 bs) else _) = _
    rw [if_pos rfl]
    have e2 : lvs db 0 (bs.map (·.b)) = bs := lvs_good hb.2.1 bs 0 (by have := hb.1; omega) (fun k hk => by rw [Nat.zero_add]; exact hb.2.2 k hk)
    unfold rest
    rw [levels_step]
    show (if chk db (lvs db 0 (bs.map (·.b))) = 0 then Except.ok (db, lvs db 0 (bs.map (·.b))) else _) = _
    rw [e2, if_pos (chk_zero.2 hb)]
  · intro hne
    unfold apply
    rw [if_neg (by rw [chk_zero.2 hc]; simp), hi']
    show (match asI (inI da) with | .error e => Except.error e | .ok f => match asI (inI db) with | .error e => Except.error e | .ok day => if f = dc then rest (asA cs) day (stepsO xs 0 bs) else Except.error 1) = _
    rw [asI_inI (day_range ha.2.1), asI_inI (day_range hb.2.1)]
    show (if da = dc then rest (asA cs) db (stepsO xs 0 bs) else Except.error 1) = _
    rw [if_neg (fun e => hne e.symm)]
end Cm
end Go.Proofs.YtfdchdnkblmijaaGreatDoor
end

section
namespace Go.Proofs.YtfdchdnkblmijaaGreatDoor
namespace Cm
/-- The levels' bytes are at most so many each. -/
def Few (m : Nat) (ls : List Sm.Sv) : Prop := ∀ s ∈ ls, s.b.length ≤ m
instance (m : Nat) (ls : List Sm.Sv) : Decidable (Few m ls) := by unfold Few; infer_instance
theorem len_le (x : Dm.It) : Dm.len x ≤ 4 + (x.b.length + Dm.lens x.l) := by
  rw [len_eq, List.length_append, Dm.cat_len, Dm.lenB_length]
  split
  · omega
  · split <;> omega
theorem len_inI {n : Int} (h : -9223372036854775808 ≤ n ∧ n ≤ 9223372036854775807) : Dm.len (inI n) ≤ 12 := by
  have h1 := len_le (inI n)
  have h2 := (least_len (least_intB n h.1 h.2)).2
  have h3 : (inI n).b = intB n := rfl
  have h4 : Dm.lens (inI n).l = 0 := rfl
  rw [h3, h4] at h1
  omega
theorem len_inO (b : List Int) : Dm.len (inO b) ≤ b.length + 4 := by
  have h1 := len_le (inO b)
  have h3 : (inO b).b = b := rfl
  have h4 : Dm.lens (inO b).l = 0 := rfl
  rw [h3, h4] at h1
  omega
theorem lens_oct {m : Nat} : ∀ {ls : List Sm.Sv}, Few m ls → Dm.lens (ls.map fun s => inO s.b) ≤ ls.length * (m + 5)
  | [], _ => by simp [Dm.lens]
  | s :: l, h => by
    have := lens_oct (m := m) (ls := l) (fun x hx => h x (by simp [hx]))
    have h1 := len_inO s.b
    have h2 := h s (by simp)
    show Dm.len (inO s.b) + Dm.lens (l.map fun s => inO s.b) ≤ (l.length + 1) * (m + 5)
    rw [Nat.succ_mul]
    omega
theorem lens_step {m : Nat} (xs : List Sm.Sv) : ∀ {ls : List Sm.Sv} (i : Nat), Few m ls → Dm.lens (stepsO xs i ls) ≤ ls.length * (m + 5)
  | [], _, _ => by simp [stepsO, Dm.lens]
  | s :: l, i, h => by
    have := lens_step (m := m) xs (ls := l) (i + 1) (fun x hx => h x (by simp [hx]))
    have h0 : Dm.len (stepO xs i s) ≤ m + 5 := by
      unfold stepO
      split
      · have := len_le inT
        have h3 : inT.b = [255] := rfl
        have h4 : Dm.lens inT.l = 0 := rfl
        rw [h3, h4] at this
        simp at this; omega
      · have h1 := len_inO s.b
        have h2 := h s (by simp)
        omega
    show Dm.len (stepO xs i s) + Dm.lens (stepsO xs (i + 1) l) ≤ (l.length + 1) * (m + 5)
    rw [Nat.succ_mul]
    omega
theorem len_item {m : Nat} {day : Int} {ls : List Sm.Sv} (hd : dated day) (hf : Few m ls) : Dm.len (item day ls) ≤ 16 + ls.length * (m + 5) := by
  have h1 := len_le (item day ls)
  have h2 := lens_oct hf
  have h3 := len_inI (day_range hd)
  have h4 : (item day ls).b.length = 0 := rfl
  have h5 : Dm.lens (item day ls).l = Dm.len (inI day) + Dm.lens (ls.map fun s => inO s.b) := rfl
  omega
theorem len_step {m : Nat} {da db : Int} {xs bs : List Sm.Sv} (ha : dated da) (hb : dated db) (hf : Few m bs) : Dm.len (stepItem da xs db bs) ≤ 28 + bs.length * (m + 5) := by
  have h1 := len_le (stepItem da xs db bs)
  have h2 := lens_step xs 0 hf
  have h3 := len_inI (day_range ha)
  have h3' := len_inI (day_range hb)
  have h4 : (stepItem da xs db bs).b.length = 0 := rfl
  have h5 : Dm.lens (stepItem da xs db bs).l = Dm.len (inI da) + (Dm.len (inI db) + Dm.lens (stepsO xs 0 bs)) := rfl
  omega
theorem mul_le {n m : Nat} (h : n ≤ 16) : n * m ≤ 16 * m := Nat.mul_le_mul_right m h
theorem item_fits {day : Int} {ls : List Sm.Sv} (h : good day ls) (hf : Few 300 ls) : Dm.len (item day ls) ≤ 8192 := by
  have h1 := len_item h.2.1 hf
  have h2 := mul_le (m := 300 + 5) h.1
  omega
theorem step_fits {da db : Int} {xs bs : List Sm.Sv} (ha : dated da) (h : good db bs) (hf : Few 300 bs) : Dm.len (stepItem da xs db bs) ≤ 8192 := by
  have h1 := len_step (xs := xs) ha h.2.1 hf
  have h2 := mul_le (m := 300 + 5) h.1
  omega
/-- A good cascade's levels are short. -/
theorem good_short {day : Int} {ls : List Sm.Sv} (h : good day ls) : Few 1024 ls := fun s hs => by
  obtain ⟨k, hk, rfl⟩ := List.getElem_of_mem hs
  have hg := (h.2.2 k hk).1
  rw [List.getElem?_eq_getElem hk] at hg
  unfold Sm.ok at hg
  have h2 : ((ls[k].b.length : Nat) : Int) = ls[k].bits / 8 := hg.2.2.2.2.2.2
  have h3 : ls[k].bits ≤ 8192 := hg.2.1
  omega
theorem wt_inI {n : Int} (h : -9223372036854775808 ≤ n ∧ n ≤ 9223372036854775807) : Dm.wt (inI n) ≤ 10 := by
  have h2 := (least_len (least_intB n h.1 h.2)).2
  rw [Dm.wt_eq]
  show 2 + (intB n).length + Dm.wts [] ≤ 10
  simp only [Dm.wts]; omega
theorem wts_oct {m : Nat} : ∀ {ls : List Sm.Sv}, Few m ls → Dm.wts (ls.map fun s => inO s.b) ≤ ls.length * (m + 5)
  | [], _ => by simp [Dm.wts]
  | s :: l, h => by
    have := wts_oct (m := m) (ls := l) (fun x hx => h x (by simp [hx]))
    have h1 : Dm.wt (inO s.b) = 2 + s.b.length + Dm.wts [] := Dm.wt_eq _
    have h2 := h s (by simp)
    simp only [Dm.wts] at h1
    show Dm.wt (inO s.b) + Dm.wts (l.map fun s => inO s.b) ≤ (l.length + 1) * (m + 5)
    rw [Nat.succ_mul]
    omega
theorem wts_step {m : Nat} (xs : List Sm.Sv) : ∀ {ls : List Sm.Sv} (i : Nat), Few m ls → Dm.wts (stepsO xs i ls) ≤ ls.length * (m + 5)
  | [], _, _ => by simp [stepsO, Dm.wts]
  | s :: l, i, h => by
    have := wts_step (m := m) xs (ls := l) (i + 1) (fun x hx => h x (by simp [hx]))
    have h0 : Dm.wt (stepO xs i s) ≤ m + 5 := by
      unfold stepO
      split
      · have h1 : Dm.wt inT = 2 + 1 + Dm.wts [] := Dm.wt_eq _
        simp only [Dm.wts] at h1; omega
      · have h1 : Dm.wt (inO s.b) = 2 + s.b.length + Dm.wts [] := Dm.wt_eq _
        have h2 := h s (by simp)
        simp only [Dm.wts] at h1
        omega
    show Dm.wt (stepO xs i s) + Dm.wts (stepsO xs (i + 1) l) ≤ (l.length + 1) * (m + 5)
    rw [Nat.succ_mul]
    omega
theorem item_wt {day : Int} {ls : List Sm.Sv} (h : good day ls) : Dm.wt (item day ls) ≤ 400000 := by
  have h1 := wts_oct (good_short h)
  have h2 := mul_le (m := 1024 + 5) h.1
  have h3 := wt_inI (day_range h.2.1)
  have h5 : Dm.wt (item day ls) = 2 + 0 + (Dm.wt (inI day) + Dm.wts (ls.map fun s => inO s.b)) := Dm.wt_eq _
  omega
theorem step_wt {da db : Int} {xs bs : List Sm.Sv} (ha : dated da) (h : good db bs) : Dm.wt (stepItem da xs db bs) ≤ 400000 := by
  have h1 := wts_step xs 0 (good_short h)
  have h2 := mul_le (m := 1024 + 5) h.1
  have h3 := wt_inI (day_range ha)
  have h3' := wt_inI (day_range h.2.1)
  have h5 : Dm.wt (stepItem da xs db bs) = 2 + 0 + (Dm.wt (inI da) + (Dm.wt (inI db) + Dm.wts (stepsO xs 0 bs))) := Dm.wt_eq _
  omega
/-- A cascade that was read is no longer than its bytes. -/
theorem read_short {b : List Int} {day : Int} {ls : List Sm.Sv} (hb : ∀ y ∈ b, byte y) (h : get b = .ok (day, ls)) : good day ls := chk_zero.1 (get_put hb h).1

/-- What Put makes. -/
def putR (day : Int) (ls : List Sm.Sv) : Except Int (List Int) :=
  if chk day ls = 0 then (if Dm.len (item day ls) ≤ 8192 then .ok (Dm.bytes (item day ls)) else .error 2) else .error (chk day ls)
/-- What Delta makes. -/
def deltaR (da : Int) (xs : List Sm.Sv) (db : Int) (bs : List Sm.Sv) : Except Int (List Int) :=
  if chk da xs = 0 then (if chk db bs = 0 then (if Dm.len (stepItem da xs db bs) ≤ 8192 then .ok (Dm.bytes (stepItem da xs db bs)) else .error 2) else .error (chk db bs)) else .error (chk da xs)

/-- The examples. -/
theorem live_make : ∃ l1 l2, mk [1] [2, 3] 7 = .ok (7, l1) ∧ mk [] [2, 3] 7 = .ok (7, l2) ∧ (Few 300 l1 ∧ (l1[0]?.getD nil).bits = 8) ∧ Few 300 l2 := by
  have h1 : ((build 7 16 0 [1] [2, 3]).any fun ls => decide (Few 300 ls ∧ (ls[0]?.getD nil).bits = 8)) = true := by decide +kernel
  have h2 : ((build 7 16 0 [] [2, 3]).any fun ls => decide (Few 300 ls)) = true := by decide +kernel
  cases e1 : build 7 16 0 [1] [2, 3] with
  | none => rw [e1] at h1; cases h1
  | some l1 =>
    cases e2 : build 7 16 0 [] [2, 3] with
    | none => rw [e2] at h2; cases h2
    | some l2 =>
      rw [e1] at h1; rw [e2] at h2
      refine ⟨l1, l2, ?_, ?_, of_decide_eq_true h1, of_decide_eq_true h2⟩
      · unfold mk
        rw [if_pos (by decide), if_pos (by decide), e1]
      · unfold mk
        rw [if_pos (by decide), if_pos (by decide), e2]
theorem live_codes : mk [1] [1] 7 = .error 100 ∧ mk [2, 1] [] 7 = .error 1 ∧ chk (-1) [] = 1 := by
  refine ⟨?_, ?_, by decide⟩
  · unfold mk
    rw [if_pos (by decide), if_neg (by decide)]
  · unfold mk
    rw [if_neg (by decide)]
theorem mk_good {ins outs : List Int} {day : Int} {p : Int × List Sm.Sv} (h : mk ins outs day = .ok p) : good p.1 p.2 ∧ 1 ≤ p.2.length := by
  obtain ⟨h1, h2, h3, -, h5, h6⟩ := mk_ok h
  rw [h5]
  exact good_build day h3 ins outs p.2 (by have := h1.2; omega) (by have := h2.2; omega) h1.1.1 h2.1.1 h6
theorem mk_has {ins outs : List Int} {day : Int} {p : Int × List Sm.Sv} (h : mk ins outs day = .ok p) : (∀ x ∈ ins, has p.1 p.2 x = true) ∧ ∀ x ∈ outs, has p.1 p.2 x = false := by
  obtain ⟨h1, h2, h3, h4, h5, h6⟩ := mk_ok h
  rw [h5]
  exact has_build day h3 ins outs p.2 (by have := h1.2; omega) (by have := h2.2; omega) h1.1.1 h2.1.1 h4 h6
theorem build_head {day : Int} {f : Nat} {i : Int} {ins outs : List Int} {ls : List Sm.Sv} (h : build day (f + 1) i ins outs = some ls) : ls[0]?.getD nil = lv day i ins ∧
    ((outs.filter (Sm.has (lv day i ins)) = [] ∧ ls = [lv day i ins]) ∨ (outs.filter (Sm.has (lv day i ins)) ≠ [] ∧ ∃ l, build day f (i + 1) (outs.filter (Sm.has (lv day i ins))) ins = some l ∧ ls = lv day i ins :: l)) := by
  unfold build at h
  split at h
  · next hn => cases h; exact ⟨rfl, .inl ⟨hn, rfl⟩⟩
  · next hn =>
    cases hb : build day f (i + 1) (outs.filter (Sm.has (lv day i ins))) ins with
    | none => rw [hb] at h; cases h
    | some l =>
      rw [hb] at h
      cases h
      exact ⟨rfl, .inr ⟨hn, l, rfl, rfl⟩⟩
theorem apply_nil {da : Int} {xs : List Sm.Sv} (h : chk da xs = 0) : apply da xs [] = .error 70 := by
  unfold apply
  rw [if_neg (by rw [h]; simp)]
  rfl
end Cm
end Go.Proofs.YtfdchdnkblmijaaGreatDoor
end

section
namespace Go.Proofs.YtfdchdnkblmijaaGreatDoor
open Go.RowKit

mutual
theorem Cm.wt_len : ∀ x : Dm.It, Dm.wt x ≤ Dm.len x
  | .mk t b l => by
    unfold Dm.wt Dm.len
    have := Cm.wts_lens l
    have h := Dm.lenB_length (b.length + Dm.lens l)
    rw [h]
    split
    · omega
    · split <;> omega
theorem Cm.wts_lens : ∀ l : List Dm.It, Dm.wts l ≤ Dm.lens l
  | [] => by simp [Dm.wts, Dm.lens]
  | x :: l => by
    unfold Dm.wts Dm.lens
    have := Cm.wt_len x
    have := Cm.wts_lens l
    omega
end
/-- Items that are few, and small. -/
def Fits (l : List Dm.It) : Prop := l.length ≤ 8192 ∧ ∀ x ∈ l, Dm.wt x ≤ 10000
theorem Fits.tail {x : Dm.It} {l : List Dm.It} (h : Fits (x :: l)) : Fits l := ⟨by have := h.1; simp at this; omega, fun y hy => h.2 y (by simp [hy])⟩
/-- What is still to read, or why nothing is: the reader lies in W, its items in we. -/
def RdR (we W : World) (R : Nat) : Except Int (List Dm.It) → Prop
  | .error c => c ≠ 0 ∧ ∃ a n k, Duo W R 72 (.slice a n k) (.int .i64 c)
  | .ok l => ∃ a k, Duo W R 72 (.slice a l.length k) (.int .i64 0) ∧ ItsV we (.slice a l.length k) l ∧ Fits l
theorem RdR.moved {we W V : World} {R : Nat} {S : Except Int (List Dm.It)} (h : RdR we W R S) (hb : V.heap[R]? = W.heap[R]?) : RdR we V R S := by
  cases S with
  | error c => obtain ⟨h0, a, n, k, hd⟩ := h; exact ⟨h0, a, n, k, hb.trans hd⟩
  | ok l => obtain ⟨a, k, hd, hi, hw⟩ := h; exact ⟨a, k, hb.trans hd, hi, hw⟩
theorem RdR.lt {we W : World} {R : Nat} {S : Except Int (List Dm.It)} (h : RdR we W R S) : R < W.heap.size := by
  cases S with
  | error c => obtain ⟨h0, a, n, k, hd⟩ := h; exact hd.lt
  | ok l => obtain ⟨a, k, hd, hi, hw⟩ := h; exact hd.lt
theorem RdR.slim {we W : World} {R : Nat} {S : Except Int (List Dm.It)} (h : RdR we W R S) : Slim W R := by
  cases S with
  | error c => obtain ⟨h0, a, n, k, hd⟩ := h; exact slim_of hd
  | ok l => obtain ⟨a, k, hd, hi, hw⟩ := h; exact slim_of hd
theorem RdR.duo {we W : World} {R : Nat} {S : Except Int (List Dm.It)} (h : RdR we W R S) : ∃ a n k, Duo W R 72 (.slice a n k) (.int .i64 (match S with | .error c => c | .ok _ => 0)) := by
  cases S with
  | error c => obtain ⟨h0, a, n, k, hd⟩ := h; exact ⟨a, n, k, hd⟩
  | ok l => obtain ⟨a, k, hd, hi, hw⟩ := h; exact ⟨a, _, k, hd⟩
/-- One item is read. -/
def Cm.nx {α : Type} (f : Dm.It → Except Int α) (z : α) : Except Int (List Dm.It) → α × Except Int (List Dm.It)
  | .error c => (z, .error c)
  | .ok [] => (z, .ok [])
  | .ok (x :: l) => match f x with
    | .error c => (z, .error c)
    | .ok v => (v, .ok l)
theorem Cm.nx_cons {α : Type} (f : Dm.It → Except Int α) (z : α) (x : Dm.It) (l : List Dm.It) : Cm.nx f z (.ok (x :: l)) = (match f x with | .error c => (z, .error c) | .ok v => (v, .ok l)) := rfl
theorem Cm.nx_err {α : Type} {f : Dm.It → Except Int α} {z : α} {x : Dm.It} {l : List Dm.It} {c : Int} (h : f x = .error c) : Cm.nx f z (.ok (x :: l)) = (z, .error c) := by rw [Cm.nx_cons, h]
theorem Cm.nx_ok {α : Type} {f : Dm.It → Except Int α} {z v : α} {x : Dm.It} {l : List Dm.It} (h : f x = .ok v) : Cm.nx f z (.ok (x :: l)) = (v, .ok l) := by rw [Cm.nx_cons, h]
theorem KindsAt.but {W V : World} {R : Nat} (h : KindsAt W) (hs : Slim W R) (hb : ButB R W V) : KindsAt V := fun i hi => by
  have hne : 0 ≠ R := by
    rintro rfl
    have := (hs _ _ (h 1 (by decide)).1).1
    omega
  exact ⟨(hb.cell (p := ⟨0, _, none⟩) h.lt hne).trans (h i hi).1, (hb.cell (p := ⟨0, _, none⟩) h.lt hne).trans (h i hi).2⟩
/-- The items of what was got. -/
def Cm.itemsX (N m : Nat) : Except Int (Dm.It × Nat) → Except Int (List Dm.It)
  | .error e => .error e
  | .ok (x, n) => if n = N then (if asE x 48 = 0 then (if x.l.length < m then .error 71 else .ok x.l) else .error (asE x 48)) else .error 71
theorem getAt_fail {b : List Int} {p : Int} {c : Int} (h : getAt b p = .error c) : c ≠ 0 := by
  unfold getAt at h
  split at h
  · cases h; decide
  · split at h
    · next e he => cases h; rcases get_fail he with rfl | rfl <;> decide
    · cases h
theorem getAt_size {b : List Int} {x : Dm.It} {n : Nat} (hb : ∀ y ∈ b, byte y) (h : getAt b 0 = .ok (x, n)) : Dm.wt x ≤ 8192 ∧ x.l.length ≤ 8192 ∧ (∀ y ∈ x.l, Dm.wt y ≤ 8192) := by
  unfold getAt at h
  rw [if_neg (by omega), show (0 : Int).toNat = 0 from rfl, List.drop_zero] at h
  split at h
  · cases h
  · next y r hg =>
    cases h
    have h3 := (Dm.get_only 8 b x r (fun y hy => by have := hb y hy; unfold byte at this; exact ⟨this.1, by omega⟩) hg).2.2
    have h4 := Cm.wt_len x
    have h5 := Dm.wt_eq x
    have h6 := Dm.wts_len x.l
    exact ⟨by omega, by omega, fun y hy => by have := Dm.wts_mem hy; omega⟩
theorem asE_cases (x : Dm.It) (t : Int) : asE x t = 0 ∨ asE x t = 71 ∨ asE x t = 72 := by
  unfold asE
  split
  · split
    · exact .inl rfl
    · exact .inr (.inl rfl)
  · exact .inr (.inr rfl)

set_option maxRecDepth 100000 in
set_option maxHeartbeats 2000000 in
theorem open_any (v : Value) (l : List Int) (m : Nat) (w : World) (hk : KindsAt w) (h : Row .u8 w v l) (hl : l.length ≤ 1000000) (_hm : m ≤ 2) :
    Calls Tryz.prog 26 #[v, .int .i64 m] w fun e w' => (∃ R, e = .returned (.pointer (some ⟨R, 0, none⟩)) ∧ w.heap.size ≤ R ∧ RdR w' w' R (Cm.items l m)) ∧ Below w.heap.size w w' := by
  obtain ⟨a, c, rfl⟩ := h.shape l.length rfl
  have hG := Get_any _ l 0 w hk h hl
  have hby := h.all_byte
  obtain ⟨X, hX⟩ : ∃ X, getAt l 0 = X := ⟨_, rfl⟩
  rw [hX] at hG
  have hz : Cm.items l m = Cm.itemsX l.length m X := by rw [← hX]; rfl
  obtain ⟨Z, hZ⟩ : ∃ Z, Cm.items l m = Z := ⟨_, rfl⟩
  rw [hZ] at hz ⊢
  obtain ⟨N, hN⟩ : ∃ N, l.length = N := ⟨_, rfl⟩
  have HBY := Lib.hid hby; have HK := Lib.hid hk; have HNn := Lib.hid hN
  rw [hN] at hz hG hl ⊢
  clear hZ hby h hk hN
  match X, hX, hG, hz with
  | .error cc, hX, hG, hz =>
    have hcc := getAt_fail hX
    have hz' : Z = .error cc := hz
    have HZ := Lib.hid hz'
    clear hX hz hz'
    go_enter Tryz.func26, Tryz.ntmps26
    go_wp2_with fail
    refine hG.mono ?_; rintro e w1 ⟨he, hb⟩
    have he' : e = .returned (.tuple #[noV, .int .i64 0, .int .i64 cc]) := he
    subst he'
    have HB := Lib.hid hb
    have hd2 := Duo.new (w1.alloc (.cells #[.int .i64 0, .slice none 0 0, .slice none 0 0] 45)) 72 (.slice none 0 0) (.int .i64 cc)
    rw [World.size_alloc] at hd2
    have HD2 := Lib.hid hd2
    clear hG he hb hd2
    go_wp2_with fail
    go_ret
    rw [HZ.out]
    exact ⟨⟨_, rfl, by have := HB.out.size; omega, hcc, _, _, _, HD2.out⟩, (HB.out.alloc HB.out.size _).alloc (by have := HB.out.size; simp; omega) _⟩
  | .ok (x, n), hX, hG, hz =>
    obtain ⟨hw1, hw2, hw3⟩ := getAt_size HBY.out hX
    have HW1 := Lib.hid hw1; have HW2 := Lib.hid hw2; have HW3 := Lib.hid hw3
    obtain ⟨nb, hnb⟩ : ∃ nb, x.b.length = nb := ⟨_, rfl⟩
    obtain ⟨nl, hnl⟩ : ∃ nl, x.l.length = nl := ⟨_, rfl⟩
    have hG' := hG
    replace hz : Z = if n = N then (if asE x 48 = 0 then (if x.l.length < m then .error 71 else .ok x.l) else .error (asE x 48)) else .error 71 := hz
    clear hG hw1 hw2 hw3 hX
    by_cases hn : n = N
    case neg =>
      have hz' : Z = .error 71 := by rw [hz]; exact if_neg hn
      have HZ := Lib.hid hz'
      have hn2 : ¬ (n : Int) = (N : Int) := by omega
      clear hz hz' hn
      go_enter Tryz.func26, Tryz.ntmps26
      go_wp2_with fail
      refine hG'.mono ?_; rintro e w1 ⟨⟨ab, cb, al, cl, rfl, ho⟩, hb⟩
      have HB := Lib.hid hb
      rw [hnb, hnl]
      have hd2 := Duo.new (w1.alloc (.cells #[.int .i64 x.tag, .slice ab nb cb, .slice al nl cl] 45)) 72 (.slice none 0 0) (.int .i64 71)
      rw [World.size_alloc] at hd2
      have HD2 := Lib.hid hd2
      clear hG' hb hd2 ho hnb hnl
      go_wp2_with fail
      go_ret
      rw [HZ.out]
      exact ⟨⟨_, rfl, by have := HB.out.size; omega, by decide, _, _, _, HD2.out⟩, (HB.out.alloc HB.out.size _).alloc (by have := HB.out.size; simp; omega) _⟩
    subst hn
    rw [if_pos rfl] at hz
    go_enter Tryz.func26, Tryz.ntmps26
    go_wp2_with fail
    refine hG'.mono ?_; rintro e w1 ⟨⟨ab, cb, al, cl, rfl, ho⟩, hb⟩
    have hit := ho.it
    obtain ⟨R, hR⟩ : ∃ R, w1.heap.size + 1 = R := ⟨_, rfl⟩
    obtain ⟨V, hV⟩ : ∃ V, (w1.alloc (.cells #[.int .i64 x.tag, .slice ab x.b.length cb, .slice al x.l.length cl] 45)).alloc (.cells #[.slice none 0 0, .int .i64 0] 72) = V := ⟨_, rfl⟩
    have hb1V : Below w1.heap.size w1 V := by rw [← hV]; exact ((Below.refl _ w1).alloc (Nat.le_refl _) _).alloc (by simp) _
    have hd2 : Duo V R 72 (.slice none 0 0) (.int .i64 0) := by
      have := Duo.new (w1.alloc (.cells #[.int .i64 x.tag, .slice ab x.b.length cb, .slice al x.l.length cl] 45)) 72 (.slice none 0 0) (.int .i64 0)
      rwa [World.size_alloc, hR, hV] at this
    have q2 : Trip V w1.heap.size 45 (.int .i64 x.tag) (.slice ab x.b.length cb) (.slice al x.l.length cl) := by
      have := (Trip.new w1 45 (.int .i64 x.tag) (.slice ab x.b.length cb) (.slice al x.l.length cl)).alloc (.cells #[.slice none 0 0, .int .i64 0] 72)
      rwa [hV] at this
    have hbV : Below w.heap.size w V := hb.trans (hb1V.mono hb.size)
    have hiV := hit.below hb1V
    have hA := AsSeq_any x _ _ V (HK.out.below hbV) hiV (by have := HW1.out; omega) (by have := HW2.out; omega)
    have hRw : w.heap.size ≤ R := by have := hb.size; omega
    obtain ⟨E, hE⟩ : ∃ E, asE x 48 = E := ⟨_, rfl⟩
    have hEc := asE_cases x 48
    rw [hE] at hz hA hEc
    rw [hnb, hnl] at hA q2 hV ⊢
    have HV := Lib.hid hV; have HR := Lib.hid hR; have HBV := Lib.hid hbV; have HRw := Lib.hid hRw; have HD := Lib.hid hd2; have HZ := Lib.hid hz
    have HNL := Lib.hid hnl
    clear hG' hb ho hit hV hR hb1V hbV hiV hRw hd2 hE hz hnb hnl
    have x0 := q2.cell0; have x1 := q2.cell1; have x2 := q2.cell2
    clear q2
    go_wp2_with fail
    rw [HV.out]
    (try rw [HR.out])
    (try go_wp2_with fail)
    refine hA.mono ?_; rintro e w2 ⟨⟨v, rfl, hv⟩, hb2⟩
    have d2 := HD.out.stp hb2
    have hbw2 := HBV.out.trans (hb2.mono HBV.out.size)
    have hz := HZ.out
    rcases hEc with rfl | rfl | rfl
    · rw [if_pos rfl] at hv hz
      obtain ⟨a2, k2, rfl⟩ := hv.shape
      rw [HNL.out] at hv hz ⊢
      have hfin : ∀ u, Duo ((w2.setCell ⟨R, 0, none⟩ (.slice a2 nl k2)).setCell ⟨R, 1, none⟩ u) R 72 (.slice a2 nl k2) u ∧ ButB R w2 ((w2.setCell ⟨R, 0, none⟩ (.slice a2 nl k2)).setCell ⟨R, 1, none⟩ u) ∧ Below w.heap.size w ((w2.setCell ⟨R, 0, none⟩ (.slice a2 nl k2)).setCell ⟨R, 1, none⟩ u) :=
        fun u => ⟨(d2.set0 _).set1 _, but_set (but_set (Only.refl _ _) _ _) _ _, (hbw2.setCell HRw.out _).setCell HRw.out _⟩
      have hsl := slim_of d2
      have c0 := d2.cell0; have c1 := d2.cell1; have dl := d2.lt
      have f0 : w2.frozen? ⟨R, 0, none⟩ = false := d2.free 0
      have f1 : w2.frozen? ⟨R, 1, none⟩ = false := d2.free 1
      have HF := Lib.hid hfin; have HSl := Lib.hid hsl; have HV2 := Lib.hid hv
      clear hfin hsl hv d2 hbw2 hb2 hA x0 x1 x2
      by_cases hm2 : nl < m
      · rw [if_pos hm2] at hz
        have hm3 : (nl : Int) < (m : Int) := by omega
        have HZ2 := Lib.hid hz
        clear hz hm2
        go_wp2_with fail
        go_ret
        rw [HZ2.out]
        exact ⟨⟨_, rfl, HRw.out, by decide, _, _, _, (HF.out _).1.set1 _⟩, (HF.out _).2.2.setCell HRw.out _⟩
      · rw [if_neg hm2] at hz
        have hm3 : ¬ (nl : Int) < (m : Int) := by omega
        have HZ2 := Lib.hid hz
        clear hz hm2
        go_wp2_with fail
        go_ret
        rw [HZ2.out]
        exact ⟨⟨_, rfl, HRw.out, a2, k2, by rw [HNL.out]; exact (HF.out _).1, by rw [HNL.out]; exact HV2.out.but HSl.out (HF.out _).2.1, HW2.out, fun y hy => Nat.le_trans (HW3.out y hy) (by decide)⟩, (HF.out _).2.2⟩
    all_goals
      rw [if_neg (by decide)] at hv hz
      subst hv
      have hfin : ∀ u, Duo ((w2.setCell ⟨R, 0, none⟩ (.slice none 0 0)).setCell ⟨R, 1, none⟩ u) R 72 (.slice none 0 0) u ∧ Below w.heap.size w ((w2.setCell ⟨R, 0, none⟩ (.slice none 0 0)).setCell ⟨R, 1, none⟩ u) :=
        fun u => ⟨(d2.set0 _).set1 _, (hbw2.setCell HRw.out _).setCell HRw.out _⟩
      have c0 := d2.cell0; have c1 := d2.cell1; have dl := d2.lt
      have f0 : w2.frozen? ⟨R, 0, none⟩ = false := d2.free 0
      have f1 : w2.frozen? ⟨R, 1, none⟩ = false := d2.free 1
      have HF := Lib.hid hfin; have HZ2 := Lib.hid hz
      clear hfin d2 hbw2 hb2 hA x0 x1 x2 hz
      go_wp2_with fail
      go_ret
      rw [HZ2.out]
      exact ⟨⟨_, rfl, HRw.out, by decide, _, _, _, (HF.out _).1⟩, (HF.out _).2⟩
end Go.Proofs.YtfdchdnkblmijaaGreatDoor
end

section
namespace Go.Proofs.YtfdchdnkblmijaaGreatDoor
open Go.RowKit

/-- What a reader of a level's bytes hands back. -/
def AsBR (w' : World) (e : Ending) : Except Int (List Int) → Prop
  | .error c => c ≠ 0 ∧ e = .returned (.tuple #[.slice none 0 0, .int .i64 c])
  | .ok b => ∃ v, e = .returned (.tuple #[v, .int .i64 0]) ∧ Row .u8 w' v b
theorem asI_nx (x : Dm.It) (l : List Dm.It) (E : Int) (hE : asE x 2 = E) : Cm.nx Cm.asI 0 (.ok (x :: l)) = if E = 0 then (numI x.b, .ok l) else (0, .error E) := by
  subst hE
  by_cases h : asE x 2 = 0
  · rw [if_pos h]; exact Cm.nx_ok (by unfold Cm.asI; rw [if_pos h])
  · rw [if_neg h]; exact Cm.nx_err (by unfold Cm.asI; rw [if_neg h])
theorem fin_rd {we W V : World} {R : Nat} {a a' : Option Addr} {n n' c c' : Nat} {x : Dm.It} {l : List Dm.It} {E : Int} (hd : Duo W R 72 (.slice a n c) (.int .i64 0)) (hV : (W.setCell ⟨R, 1, none⟩ (.int .i64 E)).setCell ⟨R, 0, none⟩ (.slice a' n' c') = V)
    (hi : ItsV we (.slice a n c) (x :: l)) (ht : ∀ U, ItsV U (.slice a n c) (x :: l) → ItsV U (.slice a' n' c') l) (hn : n' = l.length) (hw : Fits l) : Duo V R 72 (.slice a' n' c') (.int .i64 E) ∧ ButB R W V ∧ (E = 0 → RdR we V R (.ok l)) ∧ (E ≠ 0 → RdR we V R (.error E)) ∧ ∀ v b, Row .u8 W v b → Row .u8 V v b := by
  have hb : ButB R W V := by rw [← hV]; exact but_set (but_set (Only.refl _ _) 1 _) 0 _
  have hdV : Duo V R 72 (.slice a' n' c') (.int .i64 E) := by rw [← hV]; exact (hd.set1 _).set0 _
  refine ⟨hdV, hb, fun h0 => ?_, fun h0 => ⟨h0, _, _, _, hdV⟩, fun v b h => h.but (slim_of hd) hb⟩
  subst h0; subst hn
  exact ⟨a', c', hdV, ht we hi, hw⟩

set_option maxRecDepth 100000 in
set_option maxHeartbeats 2000000 in
theorem nextI_any (R : Nat) (S : Except Int (List Dm.It)) (we w : World) (hk : KindsAt w) (hne : S ≠ .ok []) (hsl : Slim we R) (hbt : ButB R we w) (h : RdR we w R S) :
    Calls Tryz.prog 27 #[.pointer (some ⟨R, 0, none⟩), .func (.func 28) #[] #[]] w fun e w' => e = .returned (.int .i64 (Cm.nx Cm.asI 0 S).1) ∧ RdR we w' R (Cm.nx Cm.asI 0 S).2 ∧ ButB R w w' := by
  match S, hne, h with
  | .error cc, _, h =>
    obtain ⟨h0, a, n, k, hd⟩ := h
    have hres : RdR we w R (.error cc) := ⟨h0, a, n, k, hd⟩
    have HRes := Lib.hid hres
    have c0 := hd.cell0; have c1 := hd.cell1
    clear hres hd hsl hbt hk
    go_enter Tryz.func27, Tryz.ntmps27
    go_wp2_with fail
    go_ret
    exact ⟨rfl, HRes.out, Only.refl _ _⟩
  | .ok [], hne, _ => exact absurd rfl hne
  | .ok (x :: l), _, h =>
    obtain ⟨a, c, hd, hi, hw⟩ := h
    have hiw := hi.but hsl hbt
    obtain ⟨b, o, ab, cb, al, cl, rfl, hlt, x0, x1, x2, ip⟩ := hiw.at_ 0 (by simp)
    simp only [List.getElem?_cons_zero, Option.getD_some, Nat.zero_mul, Nat.add_zero] at x0 x1 x2 ip
    have hwx := hw.2 x (by simp)
    have hwl : Fits l := hw.tail
    have hcn : (x :: l).length ≤ c := by obtain ⟨_, _, e', h1, _⟩ := hi; cases e'; exact h1
    obtain ⟨n, hn⟩ : ∃ n, (x :: l).length = n := ⟨_, rfl⟩
    have hnl : n = l.length + 1 := by rw [← hn]; rfl
    rw [hn] at hd hi hcn
    have n0 : 0 < n := by omega
    have n1 : 1 ≤ n := by omega
    have c1' : 1 ≤ c := by omega
    have hA := AsInt_any x _ _ w hk ip (by omega)
    obtain ⟨E, hE⟩ : ∃ E, asE x 2 = E := ⟨_, rfl⟩
    obtain ⟨M, hM⟩ : ∃ M, numI x.b = M := ⟨_, rfl⟩
    have hnx := asI_nx x l E hE
    have hEc := asE_cases x 2
    rw [hE] at hA hEc
    rw [hM] at hA hnx
    rw [hnx]
    clear hE hM hnx
    have HI := Lib.hid hi; have HWL := Lib.hid hwl; have HNL := Lib.hid hnl; have HD := Lib.hid hd
    have c0 := hd.cell0; have c1 := hd.cell1
    clear hi hiw hwl hnl hn hw ip hd hsl hbt hk
    by_cases hc1 : c = 1
    case' pos =>
      obtain rfl : n = 1 := by omega
      subst hc1
    case' neg =>
      have hc2 : 1 < c := by omega
    all_goals
      go_enter Tryz.func27, Tryz.ntmps27
      go_wp2_with fail
      refine hA.mono ?_; rintro e w2 ⟨hv, hb2⟩
      have d2 := HD.out.stp hb2
      have f0 : w2.frozen? ⟨R, 0, none⟩ = false := d2.free 0
      have f1 : w2.frozen? ⟨R, 1, none⟩ = false := d2.free 1
      have D2 := Lib.hid d2; have HB2 := Lib.hid hb2
      clear c0 c1
      have c0 := d2.cell0; have c1 := d2.cell1; have dl := d2.lt
      clear hA hb2 d2 x0 x1 x2
      obtain ⟨v, rfl, hv⟩ := hv
      rcases hEc with rfl | rfl | rfl
      · rw [if_pos rfl] at hv
        subst hv
        go_wp2_with fail
        go_ret
        obtain ⟨g1, g2, g3, g4, g5⟩ := fin_rd (E := 0) D2.out rfl HI.out (fun U hU => (by first | exact (ItsV.tail_all hU rfl).2.2 | exact ItsV.tail hU hc2)) (by have := HNL.out; omega) HWL.out
        exact ⟨rfl, g3 rfl, (but_of HB2.out).trans g2⟩
      · rw [if_neg (by decide)] at hv
        subst hv
        go_wp2_with fail
        go_ret
        obtain ⟨g1, g2, g3, g4, g5⟩ := fin_rd (E := 71) D2.out rfl HI.out (fun U hU => (by first | exact (ItsV.tail_all hU rfl).2.2 | exact ItsV.tail hU hc2)) (by have := HNL.out; omega) HWL.out
        exact ⟨rfl, g4 (by decide), (but_of HB2.out).trans g2⟩
      · rw [if_neg (by decide)] at hv
        subst hv
        go_wp2_with fail
        go_ret
        obtain ⟨g1, g2, g3, g4, g5⟩ := fin_rd (E := 72) D2.out rfl HI.out (fun U hU => (by first | exact (ItsV.tail_all hU rfl).2.2 | exact ItsV.tail hU hc2)) (by have := HNL.out; omega) HWL.out
        exact ⟨rfl, g4 (by decide), (but_of HB2.out).trans g2⟩

set_option maxRecDepth 100000 in
set_option maxHeartbeats 2000000 in
theorem nextO_any (R : Nat) (S : Except Int (List Dm.It)) (we w : World) (f : Dm.It → Except Int (List Int)) (hG : ∀ x vb vl, ItP w vb vl x → Dm.wt x ≤ 10000 → Calls Tryz.prog 31 #[.agg #[.int .i64 x.tag, vb, vl]] w fun e w' => AsBR w' e (f x) ∧ Below w.heap.size w w') (hne : S ≠ .ok []) (hsl : Slim we R) (hbt : ButB R we w) (h : RdR we w R S) :
    Calls Tryz.prog 65 #[.pointer (some ⟨R, 0, none⟩), .func (.func 31) #[] #[]] w fun e w' => (∃ v, e = .returned v ∧ Row .u8 w' v (Cm.nx f [] S).1) ∧ RdR we w' R (Cm.nx f [] S).2 ∧ ButB R w w' := by
  match S, hne, h with
  | .error cc, _, h =>
    obtain ⟨h0, a, n, k, hd⟩ := h
    have hres : RdR we w R (.error cc) := ⟨h0, a, n, k, hd⟩
    have HRes := Lib.hid hres
    have c0 := hd.cell0; have c1 := hd.cell1
    clear hres hd hsl hbt hG
    go_enter Tryz.func65, Tryz.ntmps65
    go_wp2_with fail
    go_ret
    exact ⟨⟨_, rfl, Row.nil _ _⟩, HRes.out, Only.refl _ _⟩
  | .ok [], hne, _ => exact absurd rfl hne
  | .ok (x :: l), _, h =>
    obtain ⟨a, c, hd, hi, hw⟩ := h
    have hiw := hi.but hsl hbt
    obtain ⟨b, o, ab, cb, al, cl, rfl, hlt, x0, x1, x2, ip⟩ := hiw.at_ 0 (by simp)
    simp only [List.getElem?_cons_zero, Option.getD_some, Nat.zero_mul, Nat.add_zero] at x0 x1 x2 ip
    have hwx := hw.2 x (by simp)
    have hwl : Fits l := hw.tail
    have hcn : (x :: l).length ≤ c := by obtain ⟨_, _, e', h1, _⟩ := hi; cases e'; exact h1
    obtain ⟨n, hn⟩ : ∃ n, (x :: l).length = n := ⟨_, rfl⟩
    have hnl : n = l.length + 1 := by rw [← hn]; rfl
    rw [hn] at hd hi hcn
    have n0 : 0 < n := by omega
    have n1 : 1 ≤ n := by omega
    have c1' : 1 ≤ c := by omega
    have hA := hG x _ _ ip hwx
    have hnx := Cm.nx_cons f [] x l
    rw [hnx]
    obtain ⟨X, hX⟩ : ∃ X, f x = X := ⟨_, rfl⟩
    rw [hX] at hA ⊢
    clear hX hnx
    have HI := Lib.hid hi; have HWL := Lib.hid hwl; have HNL := Lib.hid hnl; have HD := Lib.hid hd
    have c0 := hd.cell0; have c1 := hd.cell1
    clear hi hiw hwl hnl hn hw ip hd hsl hbt hG
    by_cases hc1 : c = 1
    case' pos =>
      obtain rfl : n = 1 := by omega
      subst hc1
    case' neg =>
      have hc2 : 1 < c := by omega
    all_goals
      go_enter Tryz.func65, Tryz.ntmps65
      go_wp2_with fail
      refine hA.mono ?_; rintro e w2 ⟨hv, hb2⟩
      have d2 := HD.out.stp hb2
      have f0 : w2.frozen? ⟨R, 0, none⟩ = false := d2.free 0
      have f1 : w2.frozen? ⟨R, 1, none⟩ = false := d2.free 1
      have D2 := Lib.hid d2; have HB2 := Lib.hid hb2
      clear c0 c1
      have c0 := d2.cell0; have c1 := d2.cell1; have dl := d2.lt
      clear hA hb2 d2 x0 x1 x2
      cases X with
      | error cc =>
        obtain ⟨h0, rfl⟩ := hv
        go_wp2_with fail
        go_ret
        obtain ⟨g1, g2, g3, g4, g5⟩ := fin_rd (E := cc) D2.out rfl HI.out (fun U hU => (by first | exact (ItsV.tail_all hU rfl).2.2 | exact ItsV.tail hU hc2)) (by have := HNL.out; omega) HWL.out
        exact ⟨⟨_, rfl, Row.nil _ _⟩, g4 h0, (but_of HB2.out).trans g2⟩
      | ok b8 =>
        obtain ⟨v, rfl, hr⟩ := hv
        have HRw := Lib.hid hr
        clear hr
        go_wp2_with fail
        go_ret
        obtain ⟨g1, g2, g3, g4, g5⟩ := fin_rd (E := 0) D2.out rfl HI.out (fun U hU => (by first | exact (ItsV.tail_all hU rfl).2.2 | exact ItsV.tail hU hc2)) (by have := HNL.out; omega) HWL.out
        exact ⟨⟨_, rfl, g5 _ _ HRw.out⟩, g3 rfl, (but_of HB2.out).trans g2⟩

set_option maxRecDepth 100000 in
set_option maxHeartbeats 2000000 in
theorem nextA_any (R : Nat) (S : Except Int (List Dm.It)) (we w : World) (I A : Nat) (f : Dm.It → Except Int (List Int)) (hG : ∀ x vb vl, ItP w vb vl x → Dm.wt x ≤ 10000 → Calls Tryz.prog 43 #[.agg #[.int .i64 x.tag, vb, vl], .pointer (some ⟨I, 0, none⟩), .pointer (some ⟨A, 0, none⟩)] w fun e w' => AsBR w' e (f x) ∧ Below w.heap.size w w') (hne : S ≠ .ok []) (hsl : Slim we R) (hbt : ButB R we w) (h : RdR we w R S) :
    Calls Tryz.prog 65 #[.pointer (some ⟨R, 0, none⟩), .func (.func 43) #[] #[.pointer (some ⟨I, 0, none⟩), .pointer (some ⟨A, 0, none⟩)]] w fun e w' => (∃ v, e = .returned v ∧ Row .u8 w' v (Cm.nx f [] S).1) ∧ RdR we w' R (Cm.nx f [] S).2 ∧ ButB R w w' := by
  match S, hne, h with
  | .error cc, _, h =>
    obtain ⟨h0, a, n, k, hd⟩ := h
    have hres : RdR we w R (.error cc) := ⟨h0, a, n, k, hd⟩
    have HRes := Lib.hid hres
    have c0 := hd.cell0; have c1 := hd.cell1
    clear hres hd hsl hbt hG
    go_enter Tryz.func65, Tryz.ntmps65
    go_wp2_with fail
    go_ret
    exact ⟨⟨_, rfl, Row.nil _ _⟩, HRes.out, Only.refl _ _⟩
  | .ok [], hne, _ => exact absurd rfl hne
  | .ok (x :: l), _, h =>
    obtain ⟨a, c, hd, hi, hw⟩ := h
    have hiw := hi.but hsl hbt
    obtain ⟨b, o, ab, cb, al, cl, rfl, hlt, x0, x1, x2, ip⟩ := hiw.at_ 0 (by simp)
    simp only [List.getElem?_cons_zero, Option.getD_some, Nat.zero_mul, Nat.add_zero] at x0 x1 x2 ip
    have hwx := hw.2 x (by simp)
    have hwl : Fits l := hw.tail
    have hcn : (x :: l).length ≤ c := by obtain ⟨_, _, e', h1, _⟩ := hi; cases e'; exact h1
    obtain ⟨n, hn⟩ : ∃ n, (x :: l).length = n := ⟨_, rfl⟩
    have hnl : n = l.length + 1 := by rw [← hn]; rfl
    rw [hn] at hd hi hcn
    have n0 : 0 < n := by omega
    have n1 : 1 ≤ n := by omega
    have c1' : 1 ≤ c := by omega
    have hA := hG x _ _ ip hwx
    have hnx := Cm.nx_cons f [] x l
    rw [hnx]
    obtain ⟨X, hX⟩ : ∃ X, f x = X := ⟨_, rfl⟩
    rw [hX] at hA ⊢
    clear hX hnx
    have HI := Lib.hid hi; have HWL := Lib.hid hwl; have HNL := Lib.hid hnl; have HD := Lib.hid hd
    have c0 := hd.cell0; have c1 := hd.cell1
    clear hi hiw hwl hnl hn hw ip hd hsl hbt hG
    by_cases hc1 : c = 1
    case' pos =>
      obtain rfl : n = 1 := by omega
      subst hc1
    case' neg =>
      have hc2 : 1 < c := by omega
    all_goals
      go_enter Tryz.func65, Tryz.ntmps65
      go_wp2_with fail
      refine hA.mono ?_; rintro e w2 ⟨hv, hb2⟩
      have d2 := HD.out.stp hb2
      have f0 : w2.frozen? ⟨R, 0, none⟩ = false := d2.free 0
      have f1 : w2.frozen? ⟨R, 1, none⟩ = false := d2.free 1
      have D2 := Lib.hid d2; have HB2 := Lib.hid hb2
      clear c0 c1
      have c0 := d2.cell0; have c1 := d2.cell1; have dl := d2.lt
      clear hA hb2 d2 x0 x1 x2
      cases X with
      | error cc =>
        obtain ⟨h0, rfl⟩ := hv
        go_wp2_with fail
        go_ret
        obtain ⟨g1, g2, g3, g4, g5⟩ := fin_rd (E := cc) D2.out rfl HI.out (fun U hU => (by first | exact (ItsV.tail_all hU rfl).2.2 | exact ItsV.tail hU hc2)) (by have := HNL.out; omega) HWL.out
        exact ⟨⟨_, rfl, Row.nil _ _⟩, g4 h0, (but_of HB2.out).trans g2⟩
      | ok b8 =>
        obtain ⟨v, rfl, hr⟩ := hv
        have HRw := Lib.hid hr
        clear hr
        go_wp2_with fail
        go_ret
        obtain ⟨g1, g2, g3, g4, g5⟩ := fin_rd (E := 0) D2.out rfl HI.out (fun U hU => (by first | exact (ItsV.tail_all hU rfl).2.2 | exact ItsV.tail hU hc2)) (by have := HNL.out; omega) HWL.out
        exact ⟨⟨_, rfl, g5 _ _ HRw.out⟩, g3 rfl, (but_of HB2.out).trans g2⟩
end Go.Proofs.YtfdchdnkblmijaaGreatDoor
end

section
namespace Go.Proofs.YtfdchdnkblmijaaGreatDoor
open Go.RowKit

namespace Cm
theorem items_least {b : List Int} {m : Nat} {l : List Dm.It} (h : items b m = .ok l) : m ≤ l.length := by
  unfold items at h
  split at h
  · cases h
  · split at h
    · split at h
      · split at h
        · cases h
        · cases h; omega
      · cases h
    · cases h
theorem items_ne {b : List Int} {m : Nat} (hm : 1 ≤ m) : items b m ≠ .ok [] := fun h => by
  have := items_least h
  simp at this; omega
def restS (f : Nat → Dm.It → Except Int (List Int)) (day : Int) : Except Int (List Dm.It) → Except Int (Int × List Sm.Sv)
  | .error c => .error c
  | .ok l => rest f day l
theorem get_eq (b : List Int) : get b = restS (fun _ => asO) (nx asI 0 (items b 1)).1 (nx asI 0 (items b 1)).2 := by
  unfold get
  cases h : items b 1 with
  | error c => rfl
  | ok l =>
    match l, items_least h with
    | x :: l, _ =>
      show (match asI x with | .error e => Except.error e | .ok day => rest (fun _ => asO) day l) = _
      cases hx : asI x with
      | error e => rw [nx_err hx]; rfl
      | ok d => rw [nx_ok hx]; rfl
/-- From another day it leads nowhere. -/
def fromS (da f : Int) : Except Int (List Dm.It) → Except Int (List Dm.It)
  | .error c => .error c
  | .ok l => if f = da then .ok l else .error 1
theorem apply_eq {da : Int} {xs : List Sm.Sv} (d : List Int) (h : chk da xs = 0) :
    apply da xs d = restS (asA xs) (nx asI 0 (nx asI 0 (items d 2)).2).1 (fromS da (nx asI 0 (items d 2)).1 (nx asI 0 (nx asI 0 (items d 2)).2).2) := by
  unfold apply
  rw [if_neg (by rw [h]; simp)]
  cases hi : items d 2 with
  | error c => rfl
  | ok l =>
    match l, items_least hi with
    | x :: y :: l, _ =>
      cases hx : asI x with
      | error e =>
        rw [nx_err hx]
        show (match asI x with | .error e => Except.error e | .ok f => (match asI y with | .error e => Except.error e | .ok day => if f = da then rest (asA xs) day l else .error 1)) = _
        rw [hx]; rfl
      | ok f =>
        rw [nx_ok hx]
        show (match asI x with | .error e => Except.error e | .ok f => (match asI y with | .error e => Except.error e | .ok day => if f = da then rest (asA xs) day l else .error 1)) = restS (asA xs) (nx asI 0 (.ok (y :: l))).1 (fromS da f (nx asI 0 (.ok (y :: l))).2)
        rw [hx]
        show (match asI y with | .error e => Except.error e | .ok day => if f = da then rest (asA xs) day l else .error 1) = _
        cases hy : asI y with
        | error e => rw [nx_err hy]; rfl
        | ok day =>
          rw [nx_ok hy]
          show (if f = da then rest (asA xs) day l else .error 1) = restS (asA xs) day (if f = da then .ok l else .error 1)
          by_cases hf : f = da
          · rw [if_pos hf, if_pos hf]; rfl
          · rw [if_neg hf, if_neg hf]; rfl
theorem nx_two {d : List Int} : (nx asI 0 (items d 2)).2 ≠ .ok [] := fun h => by
  cases hi : items d 2 with
  | error c => rw [hi] at h; cases h
  | ok l =>
    rw [hi] at h
    match l, items_least hi with
    | x :: y :: l, _ =>
      cases hx : asI x with
      | error c => rw [nx_err hx] at h; cases h
      | ok v => rw [nx_ok hx] at h; cases h
end Cm
/-- A slice of sieves where one block changes that has no room for one. -/
theorem Svs.butS {W V : World} {R : Nat} {v : Value} {ls : List Sm.Sv} (h : Svs W v ls) (hs : Slim W R) (hb : ButB R W V) : Svs V v ls := by
  obtain ⟨a', cap, h1, h2, h3, h0, h5⟩ := h
  refine ⟨a', cap, h1, h2, h3, h0, fun hne => ?_⟩
  obtain ⟨b, off, e', hlt, hc⟩ := h5 hne
  have hn : b ≠ R := by
    rintro rfl
    obtain ⟨vb, _, x0, x1, x2, x3⟩ := hc 0 (List.length_pos_iff.2 hne)
    have := (hs _ _ x2).1
    omega
  have hk : ∀ i u, W.cell? ⟨b, i, none⟩ = some u → V.cell? ⟨b, i, none⟩ = some u := fun i u hu => (hb.cell (p := ⟨b, i, none⟩) hlt hn).trans hu
  refine ⟨b, off, e', Nat.lt_of_lt_of_le hlt hb.size, fun i hi => ?_⟩
  obtain ⟨vb, r, x0, x1, x2, x3⟩ := hc i hi
  exact ⟨vb, r.but hs hb, hk _ _ x0, hk _ _ x1, hk _ _ x2, hk _ _ x3⟩
theorem slim_casc {W : World} {R : Nat} {t : TypeId} {a : Option Addr} {n c : Nat} {e : Int} (h : Duo W R t (.int .i64 e) (.slice a n c)) : Slim W R := by
  intro i u hu
  have hc := h.cell0
  have h1 := h.cell1
  match i with
  | 0 => rw [hc] at hu; cases hu; exact ⟨by decide, fun x h => by cases h⟩
  | 1 => rw [h1] at hu; cases hu; exact ⟨by decide, fun x h => by cases h⟩
  | i + 2 =>
    exfalso
    unfold World.cell? at hu
    simp only at hu
    rw [show W.heap[R]? = _ from h] at hu
    simp at hu
/-- A cascade that is stored in a box of its own. -/
theorem svs_set2 {W : World} {B : Nat} {v : Value} {ls : List Sm.Sv} {t : TypeId} {a : Option Addr} {n c : Nat} {e : Int} (h : Svs W v ls) (hd : Duo W B t (.int .i64 e) (.slice a n c)) (x y : Value) : Svs ((W.setCell ⟨B, 0, none⟩ x).setCell ⟨B, 1, none⟩ y) v ls :=
  h.butS (slim_casc hd) (but_set (but_set (Only.refl _ _) 0 _) 1 _)
/-- The cascade that a closure holds. -/
def AtA (W : World) (A : Nat) (da : Int) (xs : List Sm.Sv) : Prop := ∃ a c, Duo W A 24 (.int .i64 da) (.slice a xs.length c) ∧ Svs W (.slice a xs.length c) xs
theorem AtA.below {W V : World} {A : Nat} {da : Int} {xs : List Sm.Sv} (h : AtA W A da xs) (hb : Below W.heap.size W V) : AtA V A da xs := by
  obtain ⟨a, c, hd, hs⟩ := h
  exact ⟨a, c, hd.stp hb, hs.below hb⟩
theorem AtA.but {W V : World} {A R : Nat} {da : Int} {xs : List Sm.Sv} (h : AtA W A da xs) (hne : A ≠ R) (hs : Slim W R) (hb : ButB R W V) : AtA V A da xs := by
  obtain ⟨a, c, hd, hv⟩ := h
  exact ⟨a, c, (hb.block A hd.lt hne).trans hd, hv.butS hs hb⟩
theorem asA_other {xs : List Sm.Sv} {i : Nat} {x : Dm.It} (h : ¬ x.tag = 1) : Cm.asA xs i x = Cm.asO x := if_neg h
theorem asA_bad {xs : List Sm.Sv} {i : Nat} {x : Dm.It} {E : Int} (h : x.tag = 1) (hE : asE x 1 = E) (h0 : E ≠ 0) : Cm.asA xs i x = .error E := by
  subst hE
  unfold Cm.asA
  rw [if_pos h, if_neg h0]
theorem asA_same {xs : List Sm.Sv} {i : Nat} {x : Dm.It} (h : x.tag = 1) (hE : asE x 1 = 0) : Cm.asA xs i x = if x.b = [255] ∧ i < xs.length then .ok (xs[i]?.getD Cm.nil).b else .error 71 := by
  unfold Cm.asA
  rw [if_pos h, if_pos hE]
theorem AsO_row (x : Dm.It) (vb vl : Value) (w : World) (hk : KindsAt w) (hp : ItP w vb vl x) (hw : Dm.wt x ≤ 10000) :
    Calls Tryz.prog 31 #[.agg #[.int .i64 x.tag, vb, vl]] w fun e w' => AsBR w' e (Cm.asO x) ∧ Below w.heap.size w w' :=
  (AsOct_any x vb vl w hk hp (by omega) (by have := Dm.wt_eq x; omega)).mono fun e w' ⟨⟨v, he, hv⟩, hb⟩ => by
    unfold Cm.asO
    by_cases h : asE x 4 = 0
    · rw [if_pos h] at hv ⊢
      rw [h] at he
      exact ⟨⟨v, he, Row.of_bytes hv hp.2.1.all_byte⟩, hb⟩
    · rw [if_neg h] at hv ⊢
      subst hv
      exact ⟨⟨h, he⟩, hb⟩

set_option maxRecDepth 100000 in
set_option maxHeartbeats 2000000 in
theorem ApIn_any (i : Nat) (x : Dm.It) (vb vl : Value) (I A : Nat) (da : Int) (xs : List Sm.Sv) (w : World) (hk : KindsAt w) (hI : Boxed w I 3 (.int .i64 i)) (hA : AtA w A da xs) (hp : ItP w vb vl x) (hw : Dm.wt x ≤ 10000) (hi : i ≤ 8192) :
    Calls Tryz.prog 43 #[.agg #[.int .i64 x.tag, vb, vl], .pointer (some ⟨I, 0, none⟩), .pointer (some ⟨A, 0, none⟩)] w fun e w' => AsBR w' e (Cm.asA xs i x) ∧ Below w.heap.size w w' := by
  obtain ⟨ab, cb, rfl⟩ := hp.2.1.shape x.b.length rfl
  obtain ⟨al, cl, rfl⟩ := hp.2.2.shape
  obtain ⟨aa, ca, dA, sA⟩ := hA
  have q0 := Trip.new w 45 (.int .i64 x.tag) (.slice ab x.b.length cb) (.slice al x.l.length cl)
  have hb0 := (Below.refl w.heap.size w).alloc (Nat.le_refl _) (.cells #[.int .i64 x.tag, .slice ab x.b.length cb, .slice al x.l.length cl] 45)
  obtain ⟨W, hW⟩ : ∃ W, w.alloc (.cells #[.int .i64 x.tag, .slice ab x.b.length cb, .slice al x.l.length cl] 45) = W := ⟨_, rfl⟩
  obtain ⟨B, hB⟩ : ∃ B, w.heap.size = B := ⟨_, rfl⟩
  rw [hW] at q0 hb0
  have kW := hk.below hb0; have bI : Boxed W I 3 (.int .i64 i) := (hb0.block I hI.lt).trans hI
  have dA' : Duo W A 24 (.int .i64 da) (.slice aa xs.length ca) := dA.stp hb0
  have sA' := sA.below hb0; have pW := hp.below hb0
  rw [hB] at q0
  have x0 := q0.cell0; have x1 := q0.cell1; have x2 := q0.cell2
  have HW := Lib.hid hW; have HB := Lib.hid hB; have HB0 := Lib.hid hb0; have KW := Lib.hid kW; have BI := Lib.hid bI; have DA := Lib.hid dA'; have SA := Lib.hid sA'; have PW := Lib.hid pW; have Q0 := Lib.hid q0
  obtain ⟨T, hT⟩ : ∃ T, x.tag = T := ⟨_, rfl⟩
  obtain ⟨nb, hnb⟩ : ∃ n, x.b.length = n := ⟨_, rfl⟩
  obtain ⟨nl, hnl⟩ : ∃ n, x.l.length = n := ⟨_, rfl⟩
  have hC1 := AsBool_any x _ _ W kW pW (by omega)
  have hC2 := AsO_row x _ _ W kW pW hw
  have HT := Lib.hid hT
  simp only [hT, hnb, hnl] at HW x0 x1 x2 hC1 hC2 ⊢
  clear hW hB hb0 kW bI dA' sA' pW q0 dA sA hk hI hp Q0 hnb hnl hT
  by_cases ht : T = 1
  case neg =>
    have hz := asA_other (xs := xs) (i := i) (x := x) (by rw [HT.out]; exact ht)
    rw [hz]
    obtain ⟨Z, hZ⟩ : ∃ Z, Cm.asO x = Z := ⟨_, rfl⟩
    rw [hZ] at hC2 ⊢
    clear hC1 hz hZ
    go_enter Tryz.func43, Tryz.ntmps43
    go_wp2_with fail
    rw [HW.out, HB.out]
    (try go_wp2_with fail)
    refine hC2.mono ?_; rintro e w2 ⟨hv, hb2⟩
    have HB2 := Lib.hid (HB0.out.trans (hb2.mono HB0.out.size))
    clear hC2 hb2 x0 x1 x2
    cases Z with
    | error cc =>
      obtain ⟨h0, rfl⟩ := hv
      go_wp2_with fail
      go_ret2
      exact ⟨⟨h0, rfl⟩, HB2.out⟩
    | ok b =>
      obtain ⟨v, rfl, hr⟩ := hv
      have HRw := Lib.hid hr
      clear hr
      go_wp2_with fail
      go_ret2
      exact ⟨⟨v, rfl, HRw.out⟩, HB2.out⟩
  subst ht
  obtain ⟨E, hE⟩ : ∃ E, asE x 1 = E := ⟨_, rfl⟩
  have hEc := asE_cases x 1
  rw [hE] at hC1 hEc
  have HE := Lib.hid hE
  clear hC2 hE
  obtain ⟨Z, hZ⟩ : ∃ Z, Cm.asA xs i x = Z := ⟨_, rfl⟩
  rw [hZ]
  have HZ := Lib.hid hZ
  clear hZ
  have hend : ∀ c : Int, c ≠ 0 → asE x 1 = c → Z = .error c := fun c h0 he => by rw [← HZ.out]; exact asA_bad HT.out he h0
  have HEnd := Lib.hid hend
  clear hend
  rcases hEc with rfl | rfl | rfl
  · have hz := HZ.out
    rw [asA_same HT.out HE.out] at hz
    obtain ⟨D, hD⟩ : ∃ D, decide (x.b = [255]) = D := ⟨_, rfl⟩
    rw [hD] at hC1
    have b0 := BI.out.cell; have d0 := DA.out.cell0; have d1 := DA.out.cell1
    have lI := BI.out.lt; have lA := DA.out.lt
    obtain ⟨m, hm⟩ : ∃ m, xs.length = m := ⟨_, rfl⟩
    rw [hm] at d1 hz
    have HM := Lib.hid hm
    cases D with
    | false =>
      have hz2 : Z = .error 71 := by rw [← hz, if_neg (fun h => of_decide_eq_false hD h.1)]
      have HZ2 := Lib.hid hz2
      clear hz hz2 hD hm
      go_enter Tryz.func43, Tryz.ntmps43
      go_wp2_with fail
      rw [HW.out, HB.out]
      (try go_wp2_with fail)
      refine hC1.mono ?_; rintro e w2 ⟨⟨v, rfl, hv⟩, hb2⟩
      rw [if_pos rfl] at hv
      subst hv
      have HB2 := Lib.hid (HB0.out.trans (hb2.mono HB0.out.size))
      clear hC1 hb2 x0 x1 x2 b0 d0 d1
      go_wp2_with fail
      go_ret2
      rw [HZ2.out]
      exact ⟨⟨by decide, rfl⟩, HB2.out⟩
    | true =>
      by_cases hlt : i < m
      · have hz2 : Z = .ok (xs[i]?.getD Cm.nil).b := by rw [← hz, if_pos ⟨of_decide_eq_true hD, hlt⟩]
        obtain ⟨_, _, e', _, _, _, g5⟩ := SA.out
        rw [HM.out] at e'
        cases e'
        obtain ⟨b, off, rfl, hbl, hc⟩ := g5 (by rintro rfl; have := HM.out; simp at this; omega)
        obtain ⟨vb, rb, y0, y1, y2, y3⟩ := hc i (by rw [HM.out]; exact hlt)
        have hlt' : ¬ ((m : Int) ≤ (i : Int)) := by omega
        have hlt2 : (i : Int) < (m : Int) := by omega
        have i0 : (0 : Int) ≤ (i : Int) := by omega
        have HZ2 := Lib.hid hz2; have RB := Lib.hid rb
        clear hz hz2 hD hm g5 hc rb y0 y1 y2
        go_enter Tryz.func43, Tryz.ntmps43
        go_wp2_with fail
        rw [HW.out, HB.out]
        (try go_wp2_with fail)
        refine hC1.mono ?_; rintro e w2 ⟨⟨v, rfl, hv⟩, hb2⟩
        rw [if_pos rfl] at hv
        subst hv
        have HB2 := Lib.hid (HB0.out.trans (hb2.mono HB0.out.size))
        have b0 := (hb2.cell (p := ⟨I, 0, none⟩) lI).trans b0
        have d1 := (hb2.cell (p := ⟨A, 1, none⟩) lA).trans d1
        have y3 := (hb2.cell (p := ⟨b, off + i * 4 + 3, none⟩) hbl).trans y3
        have RB2 := Lib.hid (RB.out.below hb2)
        clear hC1 hb2 x0 x1 x2 d0
        go_wp2_with fail
        go_ret2
        rw [HZ2.out]
        exact ⟨⟨vb, rfl, RB2.out⟩, HB2.out⟩
      · have hz2 : Z = .error 71 := by rw [← hz, if_neg (fun h => hlt h.2)]
        have HZ2 := Lib.hid hz2
        have hlt' : (m : Int) ≤ (i : Int) := by omega
        clear hz hz2 hD hm hlt
        go_enter Tryz.func43, Tryz.ntmps43
        go_wp2_with fail
        rw [HW.out, HB.out]
        (try go_wp2_with fail)
        refine hC1.mono ?_; rintro e w2 ⟨⟨v, rfl, hv⟩, hb2⟩
        rw [if_pos rfl] at hv
        subst hv
        have HB2 := Lib.hid (HB0.out.trans (hb2.mono HB0.out.size))
        have b0 := (hb2.cell (p := ⟨I, 0, none⟩) lI).trans b0
        have d1 := (hb2.cell (p := ⟨A, 1, none⟩) lA).trans d1
        clear hC1 hb2 x0 x1 x2 d0
        go_wp2_with fail
        go_ret2
        rw [HZ2.out]
        exact ⟨⟨by decide, rfl⟩, HB2.out⟩
  all_goals
    have hz2 := HEnd.out _ (by decide) HE.out
    have HZ2 := Lib.hid hz2
    clear hz2
    go_enter Tryz.func43, Tryz.ntmps43
    go_wp2_with fail
    rw [HW.out, HB.out]
    (try go_wp2_with fail)
    refine hC1.mono ?_; rintro e w2 ⟨⟨v, rfl, hv⟩, hb2⟩
    rw [if_neg (by decide)] at hv
    subst hv
    have HB2 := Lib.hid (HB0.out.trans (hb2.mono HB0.out.size))
    clear hC1 hb2 x0 x1 x2
    go_wp2_with fail
    go_ret2
    rw [HZ2.out]
    exact ⟨⟨by decide, rfl⟩, HB2.out⟩
theorem ApC_any (i : Int) (A : Nat) (w : World) : Calls Tryz.prog 42 #[.int .i64 i, .pointer (some ⟨A, 0, none⟩)] w fun e w' => e = .returned (.func (.func 43) #[] #[.pointer (some ⟨w.heap.size, 0, none⟩), .pointer (some ⟨A, 0, none⟩)]) ∧ w' = w.alloc (.cells #[.int .i64 i] 3) := by
  go_enter Tryz.func42, Tryz.ntmps42
  go_wp2
  go_ret
  exact ⟨rfl, rfl⟩
end Go.Proofs.YtfdchdnkblmijaaGreatDoor
end

section
namespace Go.Proofs.YtfdchdnkblmijaaGreatDoor
open Go.RowKit

theorem row_step {w wr V w5 : World} {n : Nat} {lv v' vb vl : Value} {ys : List Dm.It} {xs : List Value} {y : Dm.It}
    (ho : wr.ownsRow n 45 3 lv ys.length xs) (hc : Cells n lv.ownBlock wr xs ys) (hb : Below n w wr) (hn : n ≤ wr.heap.size)
    (hV : Below wr.heap.size wr V) (hy : Own wr.heap.size none V vb vl y)
    (hg : V.grownBy w5 lv.ownBlock) (own5 : w5.ownsRow n 45 3 v' (ys.length + 1) (xs ++ [.int .i64 y.tag, vb, vl])) (hat : v'.ownBlock = lv.ownBlock ∨ v'.ownBlock = some V.heap.size) :
    w5.ownsRow n 45 3 v' (ys ++ [y]).length (xs ++ [.int .i64 y.tag, vb, vl]) ∧ Cells n v'.ownBlock w5 (xs ++ [.int .i64 y.tag, vb, vl]) (ys ++ [y]) ∧ Below n w w5 ∧ n ≤ w5.heap.size := by
  have hgo : ∀ k, lv.ownBlock = some k → n ≤ k ∧ k < wr.heap.size := fun k hk => own_at ho hk
  have c1 : Cells n lv.ownBlock V (xs ++ [.int .i64 y.tag, vb, vl]) (ys ++ [y]) :=
    (hc.kept (Keep.of_below hV (Nat.le_refl _))).snoc (hy.of_new hn (fun k hk => (hgo k hk).2))
  have c2 := c1.moved (Keep.of_grown hg) hat
  have hbV : Below n w V := hb.trans (hV.mono hn)
  have hb5 : Below n w w5 := ⟨hg.os.trans hbV.os, hg.tape.trans hbV.tape, hg.output.trans hbV.output, Nat.le_trans hbV.size hg.size, fun k hk => (hg.block k (by have := hV.size; omega) (fun e => by have := hgo k e.symm; omega)).trans (hbV.block k hk)⟩
  refine ⟨by rw [List.length_append]; exact own5, c2, hb5, Nat.le_trans (Nat.le_trans hn hV.size) hg.size⟩
/-- A row of one item in a literal. -/
theorem row_one {w : World} {n : Nat} {vb vl : Value} {y : Dm.It} (hn : n ≤ w.heap.size) (hy : Own n none w vb vl y) :
    (w.alloc (.cells #[.int .i64 y.tag, vb, vl] 45)).ownsRow n 45 3 (.slice (some ⟨w.heap.size, 0, none⟩) 1 1) [y].length [.int .i64 y.tag, vb, vl] ∧
      Cells n (some w.heap.size) (w.alloc (.cells #[.int .i64 y.tag, vb, vl] 45)) [.int .i64 y.tag, vb, vl] [y] := by
  refine ⟨World.ownsRow_lit w #[.int .i64 y.tag, vb, vl] 1 hn (by unfold maxLen; omega) rfl, ?_⟩
  have h1 : Own n (some w.heap.size) (w.alloc (.cells #[.int .i64 y.tag, vb, vl] 45)) vb vl y := hy.moved (Keep.of_below ((Below.refl _ w).alloc (Nat.le_refl _) _) (Nat.le_refl _)) (.inr rfl)
  exact ⟨vb, vl, [], rfl, h1, rfl⟩
theorem row_two {w : World} {n : Nat} {vb vl ub ul : Value} {y z : Dm.It} (hn : n ≤ w.heap.size) (hy : Own n none w vb vl y) (hz : Own n none w ub ul z) :
    (w.alloc (.cells #[.int .i64 y.tag, vb, vl, .int .i64 z.tag, ub, ul] 45)).ownsRow n 45 3 (.slice (some ⟨w.heap.size, 0, none⟩) 2 2) [y, z].length [.int .i64 y.tag, vb, vl, .int .i64 z.tag, ub, ul] ∧
      Cells n (some w.heap.size) (w.alloc (.cells #[.int .i64 y.tag, vb, vl, .int .i64 z.tag, ub, ul] 45)) [.int .i64 y.tag, vb, vl, .int .i64 z.tag, ub, ul] [y, z] := by
  refine ⟨World.ownsRow_lit w #[.int .i64 y.tag, vb, vl, .int .i64 z.tag, ub, ul] 2 hn (by unfold maxLen; omega) rfl, ?_⟩
  have hk : Keep n none w (w.alloc (.cells #[.int .i64 y.tag, vb, vl, .int .i64 z.tag, ub, ul] 45)) := Keep.of_below ((Below.refl _ w).alloc (Nat.le_refl _) _) (Nat.le_refl _)
  exact ⟨vb, vl, _, rfl, hy.moved hk (.inr rfl), ub, ul, [], rfl, hz.moved hk (.inr rfl), rfl⟩
end Go.Proofs.YtfdchdnkblmijaaGreatDoor
end

section
namespace Go.Proofs.YtfdchdnkblmijaaGreatDoor
open Go.RowKit

/-- What is handed back: bytes, or why there are none. -/
def BytR (w' : World) (e : Ending) : Except Int (List Int) → Prop
  | .error c => e = .returned (.tuple #[.slice none 0 0, .int .i64 c])
  | .ok l => ∃ a c, e = .returned (.tuple #[.slice a l.length c, .int .i64 0]) ∧ Row .u8 w' (.slice a l.length c) l
theorem BytR.of_putted {w w' : World} {x : Dm.It} {e : Ending} (h : Putted w w' x e) (hm : Dm.may 8 x = true) (hy : ∀ z ∈ Dm.bytes x, byte z) : BytR w' e (if Dm.len x ≤ 8192 then .ok (Dm.bytes x) else .error 2) := by
  unfold Putted at h
  rw [if_pos hm] at h
  by_cases hl : Dm.len x ≤ 8192
  · rw [if_pos hl] at h ⊢
    obtain ⟨a, c, he, ho⟩ := h
    rw [← Dm.bytes_len] at he ho
    exact ⟨a, c, he, Row.of_bytes ho hy⟩
  · rw [if_neg hl] at h ⊢
    exact h
theorem form_of_may {x : Dm.It} (h : Dm.may 8 x = true) : Dm.form x = true := by
  rw [Dm.may_form, Bool.and_eq_true] at h
  exact h.1
/-- The items of a cascade's first levels. -/
def itsK (day : Int) (ls : List Sm.Sv) (k : Nat) : List Dm.It := Cm.inI day :: (ls.take k).map fun s => Cm.inO s.b
theorem itsK_zero (day : Int) (ls : List Sm.Sv) : itsK day ls 0 = [Cm.inI day] := rfl
theorem itsK_succ {day : Int} {ls : List Sm.Sv} {k : Nat} (hk : k < ls.length) : itsK day ls (k + 1) = itsK day ls k ++ [Cm.inO (ls[k]?.getD Cm.nil).b] := by
  unfold itsK
  rw [List.take_add_one, List.map_append, List.getElem?_eq_getElem hk]; rfl
theorem itsK_len {day : Int} {ls : List Sm.Sv} {k : Nat} (hk : k ≤ ls.length) : (itsK day ls k).length = k + 1 := by
  unfold itsK; simp; omega
theorem itsK_all (day : Int) (ls : List Sm.Sv) : Dm.It.mk 48 [] (itsK day ls ls.length) = Cm.item day ls := by
  unfold itsK Cm.item; rw [List.take_length]
theorem good_of_chk {day : Int} {ls : List Sm.Sv} (h : Cm.chk day ls = 0) : Cm.good day ls := Cm.chk_zero.1 h

set_option maxRecDepth 100000 in
set_option maxHeartbeats 4000000 in
theorem CPut_any (day : Int) (vl : Value) (ls : List Sm.Sv) (w : World) (hk : KindsAt w) (h : Svs w vl ls) (hl : ls.length ≤ 1000000) :
    Calls Tryz.prog 6 #[.agg #[.int .i64 day, vl]] w fun e w' => BytR w' e (Cm.putR day ls) ∧ Below w.heap.size w w' := by
  obtain ⟨a, c, rfl⟩ := h.shape
  obtain ⟨C, hC⟩ : ∃ C, w.heap.size = C := ⟨_, rfl⟩
  have q0 := Duo.new w 24 (.int .i64 day) (.slice a ls.length c)
  have hb0 := (Below.refl w.heap.size w).alloc (Nat.le_refl _) (.cells #[.int .i64 day, .slice a ls.length c] 24)
  have r0 := h.alloc (.cells #[.int .i64 day, .slice a ls.length c] 24)
  have k0 := hk.alloc (.cells #[.int .i64 day, .slice a ls.length c] 24)
  have hCk := CCheck_any day _ ls _ r0 hl
  obtain ⟨W, hW⟩ : ∃ W, w.alloc (.cells #[.int .i64 day, .slice a ls.length c] 24) = W := ⟨_, rfl⟩
  rw [hW] at q0 hb0 r0 k0 hCk
  rw [hC] at q0
  obtain ⟨E, hE⟩ : ∃ E, Cm.chk day ls = E := ⟨_, rfl⟩
  obtain ⟨R, hR⟩ : ∃ R, Cm.putR day ls = R := ⟨_, rfl⟩
  rw [hE] at hCk
  rw [hR]
  have HW := Lib.hid hW; have HE := Lib.hid hE; have HR := Lib.hid hR; have HC := Lib.hid hC
  have R0 := Lib.hid r0; have K0 := Lib.hid k0; have HB0 := Lib.hid hb0; have Q0 := Lib.hid q0
  have c0 := q0.cell0; have c1 := q0.cell1
  clear hW hE hR hC r0 k0 hb0 q0 h hk
  by_cases h0 : E = 0
  case neg =>
    have hr : R = .error E := by rw [← HR.out]; unfold Cm.putR; rw [if_neg (by rw [HE.out]; exact h0), HE.out]
    have HRR := Lib.hid hr
    clear hr
    go_enter Tryz.func6, Tryz.ntmps6
    go_wp2_with fail
    rw [HW.out]
    (try rw [HC.out])
    (try go_wp2_with fail)
    refine hCk.mono ?_; rintro e w1 ⟨rfl, hb⟩
    have hB := HB0.out.trans (hb.mono HB0.out.size)
    clear hCk hb c0 c1
    go_wp2_with fail
    go_ret2
    rw [HRR.out]
    exact ⟨rfl, hB⟩
  subst h0
  have hr : R = if Dm.len (Cm.item day ls) ≤ 8192 then .ok (Dm.bytes (Cm.item day ls)) else .error 2 := by rw [← HR.out]; unfold Cm.putR; rw [if_pos HE.out]
  have HRR := Lib.hid hr
  clear hr
  go_enter Tryz.func6, Tryz.ntmps6
  go_wp2_with fail
  rw [HW.out]
  (try rw [HC.out])
  (try go_wp2_with fail)
  refine hCk.mono ?_; rintro e w1 ⟨rfl, hb⟩
  have hB1 := HB0.out.trans (hb.mono HB0.out.size)
  have q1 := Q0.out.stp hb
  have R1 := Lib.hid (R0.out.below hb); have K1 := Lib.hid (K0.out.below hb)
  have HB1 := Lib.hid hB1; have Q1 := Lib.hid q1
  clear hCk c0 c1 hB1
  have c0 := q1.cell0; have c1 := q1.cell1
  clear q1 hb
  have hI := Int_any day w1
  go_wp2_with fail
  refine hI.mono ?_; rintro e w2 ⟨⟨a5, c5, rfl, o5⟩, hb⟩
  have hn2 : w1.heap.size ≤ w2.heap.size := hb.size
  obtain ⟨s1, s2⟩ := row_one hn2 o5
  have s3 : Below w1.heap.size w1 (w2.alloc (.cells #[.int .i64 2, .slice a5 (intB day).length c5, .slice none 0 0] 45)) := hb.alloc hb.size _
  have q2 := Q1.out.stp hb
  have q3 := (Q1.out.stp hb).alloc (.cells #[.int .i64 2, .slice a5 (intB day).length c5, .slice none 0 0] 45)
  obtain ⟨L0, hL0⟩ : ∃ L, w2.heap.size = L := ⟨_, rfl⟩
  obtain ⟨W3, hW3⟩ : ∃ W3, w2.alloc (.cells #[.int .i64 2, .slice a5 (intB day).length c5, .slice none 0 0] 45) = W3 := ⟨_, rfl⟩
  have hs3 : w1.heap.size ≤ W3.heap.size := by rw [← hW3]; simp; omega
  replace s1 : W3.ownsRow w1.heap.size 45 3 (.slice (some ⟨L0, 0, none⟩) 1 1) (itsK day ls 0).length [.int .i64 2, .slice a5 (intB day).length c5, .slice none 0 0] := by rw [← hW3, ← hL0]; exact s1
  replace s2 : Cells w1.heap.size (some L0) W3 [.int .i64 2, .slice a5 (intB day).length c5, .slice none 0 0] (itsK day ls 0) := by rw [← hW3, ← hL0]; exact s2
  rw [hW3] at s3 q3
  have S1 := Lib.hid s1; have S2 := Lib.hid s2; have S3 := Lib.hid s3; have HS3 := Lib.hid hs3; have HW3 := Lib.hid hW3; have HL0 := Lib.hid hL0
  clear hI hb hn2 s1 s2 s3 o5 c0 c1 hs3 hW3 hL0
  have c0 := q3.cell0; have c1 := q3.cell1
  have y0 := q2.cell0; have y1 := q2.cell1; have ly := q2.lt
  clear q3 q2
  go_wp2_with fail
  rw [HW3.out]
  (try rw [HL0.out])
  (try go_wp2_with fail)
  go_loopw [5, 7, 20] (fun l _ i wr => ∃ (k : Nat) (xs : List Value), i = .int .i64 k ∧ k ≤ ls.length ∧ wr.ownsRow w1.heap.size 45 3 l (itsK day ls k).length xs ∧ Cells w1.heap.size l.ownBlock wr xs (itsK day ls k) ∧ Below w1.heap.size w1 wr ∧ w1.heap.size ≤ wr.heap.size) (fun _ _ i _ => ls.length - (intOf i).toNat)
  case atStart => exact ⟨0, _, rfl, Nat.zero_le _, S1.out, S2.out, S3.out, HS3.out⟩
  case round =>
    obtain ⟨k, xs, rfl, hk, ho, hc, hbw, hn⟩ := hrel
    have k0 : (0 : Int) ≤ (k : Int) := by omega
    have e1 : IntKind.i64.wrap ((k : Int) + 1) = (k : Int) + 1 := IntWalk.i64_in _ (by omega)
    obtain ⟨la, ln, lc, rfl⟩ := owns_slice ho
    clear c0 c1
    by_cases hlt : k < ls.length
    · obtain ⟨_, _, e', _, hcm, _, h5⟩ := R1.out.below hbw
      cases e'
      obtain ⟨b, off, rfl, hbl, hcc⟩ := h5 (by rintro rfl; simp at hlt)
      obtain ⟨vb, rb, x0, x1, x2, x3⟩ := hcc k hlt
      have hys := itsK_succ (day := day) hlt
      obtain ⟨s, hs⟩ : ∃ s, ls[k]?.getD Cm.nil = s := ⟨_, rfl⟩
      rw [hs] at rb x0 x1 x2 hys
      have hshort : s.b.length ≤ 10000000 := by
        have := Cm.good_short (good_of_chk HE.out) s (by rw [← hs, List.getElem?_eq_getElem hlt]; exact List.getElem_mem _)
        omega
      have h16 := (good_of_chk HE.out).1
      have k1 : (k : Int) < (ls.length : Int) := by omega
      obtain ⟨sb, sh, ss, sl⟩ := s
      dsimp only at rb x0 x1 x2 hys hshort
      obtain ⟨av, cv, rfl⟩ := rb.shape sl.length rfl
      have qG := Quad.new wr 41 (.int .i64 sb) (.int .i64 sh) (.int .i64 ss) (.slice av sl.length cv)
      have rV := rb.alloc (.cells #[.int .i64 sb, .int .i64 sh, .int .i64 ss, .slice av sl.length cv] 41)
      have hOc := Oct_mk _ sl _ rV hshort
      have HO := Lib.hid ho; have HCe := Lib.hid hc; have HBw := Lib.hid hbw; have HN := Lib.hid hn; have HYs := Lib.hid hys; have H16 := Lib.hid h16
      clear hcc h5 hs rV rb ho hc hbw hn hys hshort h16
      have g0 := qG.cell0; have g1 := qG.cell1; have g2 := qG.cell2; have g3 := qG.cell3; have ltG := qG.lt
      clear qG
      obtain ⟨j0, gi, gz0, gz1, gz2⟩ := info_parts info_item
      go_wp2_with fail
      refine hOc.mono ?_; rintro e w4 ⟨⟨ao, co, rfl, oo⟩, hb4⟩
      have hV4 : Below wr.heap.size wr w4 := ((Below.refl _ wr).alloc (Nat.le_refl _) _).trans (hb4.mono (by simp))
      have oo' := oo.mono (n := wr.heap.size) (by simp)
      have ho4 := owns_keep HO.out hV4
      have HV4 := Lib.hid hV4; have OO := Lib.hid oo'; have HO4 := Lib.hid ho4
      clear hOc hb4 hV4 oo oo' ho4 g0 g1 g2 g3 ltG x0 x1 x2 x3
      go_wp2_with (first
        | (at_builtin
           refine wpList_append_own_at _ rfl (.tmp 24) (.tmp 28) 43 rfl w1.heap.size 45 j0 (.agg #[.int .i64 0, .slice none 0 0, .slice none 0 0]) 3 56 Tryz.underlying43 gi gz0 gz1 gz2 rfl (by decide) (.slice la ln lc) (itsK day ls k).length xs rfl (HO4.out.alloc _) _ 1 1 [.int .i64 4, .slice ao sl.length co, .slice none 0 0] rfl rfl (cells_new3 w4 (.int .i64 4) (.slice ao sl.length co) (.slice none 0 0) 45) (by intro u hu; simp at hu; rcases hu with rfl | rfl | rfl <;> rfl) (by have := H16.out; have := itsK_len (day := day) hk; unfold maxLen; omega) (by have := H16.out; have := itsK_len (day := day) hk; omega) (by have := HN.out; have := HV4.out.size; simp; omega) ?_
           intro v' w5 own5 hgrow _ hat
           obtain ⟨a5, n5, c5, rfl⟩ := owns_slice own5)
        | fail)
      obtain ⟨t1, t2, t3, t4⟩ := row_step HO.out HCe.out HBw.out HN.out (HV4.out.alloc HV4.out.size _) (OO.out.kept (Keep.of_below ((Below.refl w4.heap.size w4).alloc (Nat.le_refl _) _) (Nat.le_refl _))) hgrow own5 hat
      go_roundw
      case rel => exact ⟨k + 1, _, by go_num, by omega, by rw [HYs.out]; exact t1, by rw [HYs.out]; exact t2, t3, t4⟩
      case measure => simp [intOf]; omega
    · obtain rfl : k = ls.length := by omega
      have hgood := good_of_chk HE.out
      have hits : ItsV wr (.slice la ln lc) (itsK day ls ls.length) := hc.its ho (Keep.refl _ _ _)
      have hSq := Seq_mk _ _ _ hits (by rw [itsK_len (Nat.le_refl _)]; have := hgood.1; omega)
      rw [itsK_all] at hSq
      have HBw := Lib.hid hbw; have HG := Lib.hid hgood
      clear ho hc hits hgood hbw hn
      go_wp2_with fail
      refine hSq.mono ?_; rintro e w4 ⟨⟨az, cz, rfl, ip⟩, hb4⟩
      have hb14 := HBw.out.trans (hb4.mono HBw.out.size)
      have hPu := Put_any (Cm.item day ls) (Cm.item_wt HG.out) _ _ w4 (K1.out.below hb14) ip
      have hby := ip.bytes (form_of_may (Cm.may_items HG.out))
      have HB14 := Lib.hid hb14; have HBY := Lib.hid hby
      clear hSq hb4 hb14 ip hby
      go_wp2_with fail
      refine hPu.mono ?_; rintro e w5 ⟨hP, hb5⟩
      have hres := BytR.of_putted hP (Cm.may_items HG.out) HBY.out
      rw [← HRR.out] at hres
      have hB5 := HB1.out.trans ((HB14.out.trans (hb5.mono HB14.out.size)).mono HB1.out.size)
      have HB5 := Lib.hid hB5
      clear HRR HR hPu hP hb5 hB5
      cases R with
      | error cc =>
        obtain rfl : e = _ := hres
        go_wp2_with fail
        go_ret2
        exact ⟨rfl, HB5.out⟩
      | ok l =>
        obtain ⟨a, c, rfl, hr⟩ := hres
        have HRw := Lib.hid hr
        clear hr
        go_wp2_with fail
        go_ret2
        exact ⟨⟨a, c, rfl, HRw.out⟩, HB5.out⟩
end Go.Proofs.YtfdchdnkblmijaaGreatDoor
end

section
namespace Go.Proofs.YtfdchdnkblmijaaGreatDoor
open Go.RowKit

theorem BEqual_any (v1 v2 : Value) (l1 l2 : List Int) (w : World) (h1 : Row .u8 w v1 l1) (h2 : Row .u8 w v2 l2) :
    Calls Tryz.prog 40 #[v1, v2] w fun e w' => e = .returned (.bool (decide (l1 = l2))) ∧ w' = w := by
  have k1 := h1.convert
  have k2 := h2.convert
  have hs := str_eq h1.all_byte h2.all_byte
  obtain ⟨S1, hS1⟩ : ∃ S, strOfNums l1 = S := ⟨_, rfl⟩
  obtain ⟨S2, hS2⟩ : ∃ S, strOfNums l2 = S := ⟨_, rfl⟩
  rw [hS1] at k1 hs
  rw [hS2] at k2 hs
  go_enter Tryz.func40, Tryz.ntmps40
  go_wp2_with fail
  go_ret
  exact ⟨rfl, rfl⟩
theorem sv_eq (s t : Sm.Sv) : s = t ↔ s.bits = t.bits ∧ s.hashes = t.hashes ∧ s.salt = t.salt ∧ s.b = t.b := by
  cases s; cases t; simp
instance : DecidableEq Sm.Sv := fun s t => decidable_of_iff _ (sv_eq s t).symm

set_option maxRecDepth 100000 in
set_option maxHeartbeats 2000000 in
theorem CSame1_any (s t : Sm.Sv) (v1 v2 : Value) (w : World) (h1 : Row .u8 w v1 s.b) (h2 : Row .u8 w v2 t.b) :
    Calls Tryz.prog 49 #[.agg #[.int .i64 s.bits, .int .i64 s.hashes, .int .i64 s.salt, v1], .agg #[.int .i64 t.bits, .int .i64 t.hashes, .int .i64 t.salt, v2]] w fun e w' => e = .returned (.bool (decide (s = t))) ∧ Below w.heap.size w w' := by
  obtain ⟨a1, c1, rfl⟩ := h1.shape s.b.length rfl
  obtain ⟨a2, c2, rfl⟩ := h2.shape t.b.length rfl
  obtain ⟨sb, sh, ss, sl⟩ := s
  obtain ⟨tb, th, ts, tl⟩ := t
  dsimp only at h1 h2 ⊢
  have he := sv_eq ⟨sb, sh, ss, sl⟩ ⟨tb, th, ts, tl⟩
  dsimp only at he
  have HE := Lib.hid he
  have hb : ∀ x y, Below w.heap.size w ((w.alloc x).alloc y) := fun x y => ((Below.refl w.heap.size w).alloc (Nat.le_refl _) x).alloc (by simp) y
  have HB := Lib.hid hb
  have H1 := Lib.hid h1; have H2 := Lib.hid h2
  obtain ⟨n1, hn1⟩ : ∃ n, sl.length = n := ⟨_, rfl⟩
  obtain ⟨n2, hn2⟩ : ∃ n, tl.length = n := ⟨_, rfl⟩
  rw [hn1] at H1 ⊢
  rw [hn2] at H2 ⊢
  clear he h1 h2 hb hn1 hn2
  by_cases e1 : sb = tb
  · by_cases e2 : sh = th
    · by_cases e3 : ss = ts
      · obtain ⟨D, hD⟩ : ∃ D, decide (sl = tl) = D := ⟨_, rfl⟩
        have hC := BEqual_any _ _ sl tl ((w.alloc (.cells #[.int .i64 sb, .int .i64 sh, .int .i64 ss, .slice a1 n1 c1] 41)).alloc (.cells #[.int .i64 tb, .int .i64 th, .int .i64 ts, .slice a2 n2 c2] 41)) ((H1.out.alloc _).alloc _) ((H2.out.alloc _).alloc _)
        have hz : decide (Sm.Sv.mk sb sh ss sl = Sm.Sv.mk tb th ts tl) = D := by rw [← hD]; exact decide_eq_decide.2 (HE.out.trans ⟨fun h => h.2.2.2, fun h => ⟨e1, e2, e3, h⟩⟩)
        rw [hD] at hC
        rw [hz]
        subst e1; subst e2; subst e3
        clear hz hD
        go_enter Tryz.func49, Tryz.ntmps49
        go_wp2_with fail
        refine hC.mono ?_; rintro e w' ⟨rfl, rfl⟩
        go_wp2_with fail
        go_ret
        exact ⟨rfl, HB.out _ _⟩
      · have hz : decide (Sm.Sv.mk sb sh ss sl = Sm.Sv.mk tb th ts tl) = false := decide_eq_false fun h => e3 (HE.out.1 h).2.2.1
        rw [hz]; clear hz; subst e1; subst e2
        go_enter Tryz.func49, Tryz.ntmps49
        go_wp2_with fail
        go_ret
        exact ⟨rfl, HB.out _ _⟩
    · have hz : decide (Sm.Sv.mk sb sh ss sl = Sm.Sv.mk tb th ts tl) = false := decide_eq_false fun h => e2 (HE.out.1 h).2.1
      rw [hz]; clear hz; subst e1
      go_enter Tryz.func49, Tryz.ntmps49
      go_wp2_with fail
      go_ret
      exact ⟨rfl, HB.out _ _⟩
  · have hz : decide (Sm.Sv.mk sb sh ss sl = Sm.Sv.mk tb th ts tl) = false := decide_eq_false fun h => e1 (HE.out.1 h).1
    rw [hz]; clear hz
    go_enter Tryz.func49, Tryz.ntmps49
    go_wp2_with fail
    go_ret
    exact ⟨rfl, HB.out _ _⟩
/-- From one place on they are alike. -/
theorem eq_drop {l m : List Sm.Sv} {k : Nat} (hk : k < l.length) (hm : k < m.length) : (l.drop k = m.drop k) ↔ (l[k]?.getD Cm.nil = m[k]?.getD Cm.nil ∧ l.drop (k + 1) = m.drop (k + 1)) := by
  rw [List.drop_eq_getElem_cons hk, List.drop_eq_getElem_cons hm, List.getElem?_eq_getElem hk, List.getElem?_eq_getElem hm, Option.getD_some, Option.getD_some]
  exact ⟨fun h => by injection h with a b; exact ⟨a, b⟩, fun h => by rw [h.1, h.2]⟩
abbrev EQS := 48

set_option maxRecDepth 100000 in
set_option maxHeartbeats 2000000 in
theorem EqualS_any (l m : List Sm.Sv) (v1 v2 : Value) (w : World) (h1 : Svs w v1 l) (h2 : Svs w v2 m) :
    Calls Tryz.prog EQS #[v1, v2, .func (.func 49) #[] #[]] w fun e w' => e = .returned (.bool (decide (l = m))) ∧ Below w.heap.size w w' := by
  have hm1 : l.length ≤ maxLen := by obtain ⟨_, _, _, q1, q2, _⟩ := h1; omega
  obtain ⟨a1, c1, rfl⟩ := h1.shape
  obtain ⟨a2, c2, rfl⟩ := h2.shape
  have H1 := Lib.hid h1; have H2 := Lib.hid h2
  unfold maxLen at hm1
  clear h1 h2
  obtain ⟨n, hn⟩ : ∃ n, l.length = n := ⟨_, rfl⟩
  obtain ⟨n2, hn2⟩ : ∃ n, m.length = n := ⟨_, rfl⟩
  have HN := Lib.hid hn; have HN2 := Lib.hid hn2
  obtain ⟨Z, hZ⟩ : ∃ Z, decide (l = m) = Z := ⟨_, rfl⟩
  rw [hn] at hm1 ⊢
  rw [hn2, hZ]
  have HZ := Lib.hid hZ
  clear hZ
  by_cases hln : n = n2
  case neg =>
    have hE : Z = false := by rw [← HZ.out]; exact decide_eq_false fun h => hln (by rw [← hn, ← hn2, h])
    have hln' : ¬ (n : Int) = (n2 : Int) := by omega
    clear hn hn2
    go_enter Tryz.func48, Tryz.ntmps48
    go_wp2_with fail
    go_ret
    exact ⟨by rw [hE]; rfl, Below.refl _ _⟩
  subst hln
  clear hn hn2
  go_enter Tryz.func48, Tryz.ntmps48
  go_wp2_with fail
  go_loopw [7, 8, 9, 17] (fun _ _ _ i wr => ∃ k : Nat, i = .int .i64 k ∧ k ≤ n ∧ Z = decide (l.drop k = m.drop k) ∧ Below w.heap.size w wr) (fun _ _ _ i _ => n - (intOf i).toNat)
  case atStart => exact ⟨0, rfl, Nat.zero_le _, HZ.out.symm, Below.refl _ _⟩
  case round =>
    obtain ⟨k, rfl, hk, heq, hb⟩ := hrel
    have k0 : (0 : Int) ≤ (k : Int) := by omega
    by_cases hlt : k < n
    · have k1 : (k : Int) < (n : Int) := by omega
      have e1 : IntKind.i64.wrap ((k : Int) + 1) = (k : Int) + 1 := IntWalk.i64_in _ (by omega)
      obtain ⟨_, _, e', _, _, _, g5⟩ := H1.out
      rw [HN.out] at e'
      cases e'
      obtain ⟨b, off, rfl, hbl, hc⟩ := g5 (by intro h; have := HN.out; rw [h] at this; simp at this; omega)
      obtain ⟨vb, rb, x0, x1, x2, x3⟩ := hc k (by rw [HN.out]; exact hlt)
      obtain ⟨_, _, e', _, _, _, g6⟩ := H2.out
      rw [HN2.out] at e'
      cases e'
      obtain ⟨b', off', rfl, hbl', hc'⟩ := g6 (by intro h; have := HN2.out; rw [h] at this; simp at this; omega)
      obtain ⟨ub, ru, y0, y1, y2, y3⟩ := hc' k (by rw [HN2.out]; exact hlt)
      have hst := eq_drop (l := l) (m := m) (k := k) (by rw [HN.out]; exact hlt) (by rw [HN2.out]; exact hlt)
      have x0 := (hb.cell (p := ⟨b, _, none⟩) hbl).trans x0
      have x1 := (hb.cell (p := ⟨b, _, none⟩) hbl).trans x1
      have x2 := (hb.cell (p := ⟨b, _, none⟩) hbl).trans x2
      have x3 := (hb.cell (p := ⟨b, _, none⟩) hbl).trans x3
      have y0 := (hb.cell (p := ⟨b', _, none⟩) hbl').trans y0
      have y1 := (hb.cell (p := ⟨b', _, none⟩) hbl').trans y1
      have y2 := (hb.cell (p := ⟨b', _, none⟩) hbl').trans y2
      have y3 := (hb.cell (p := ⟨b', _, none⟩) hbl').trans y3
      obtain ⟨x, hx⟩ : ∃ y, l[k]?.getD Cm.nil = y := ⟨_, rfl⟩
      obtain ⟨y, hy⟩ : ∃ y, m[k]?.getD Cm.nil = y := ⟨_, rfl⟩
      rw [hx] at x0 x1 x2 rb hst
      rw [hy] at y0 y1 y2 ru hst
      obtain ⟨av, cv, rfl⟩ := rb.shape x.b.length rfl
      obtain ⟨au, cu, rfl⟩ := ru.shape y.b.length rfl
      have hC := CSame1_any x y _ _ ((wr.alloc (.cells #[.int .i64 x.bits, .int .i64 x.hashes, .int .i64 x.salt, .slice av x.b.length cv] 41)).alloc (.cells #[.int .i64 y.bits, .int .i64 y.hashes, .int .i64 y.salt, .slice au y.b.length cu] 41))
        (((rb.below hb).alloc _).alloc _) (((ru.below hb).alloc _).alloc _)
      have hb2 : Below w.heap.size w ((wr.alloc (.cells #[.int .i64 x.bits, .int .i64 x.hashes, .int .i64 x.salt, .slice av x.b.length cv] 41)).alloc (.cells #[.int .i64 y.bits, .int .i64 y.hashes, .int .i64 y.salt, .slice au y.b.length cu] 41)) := (hb.alloc hb.size _).alloc (by have := hb.size; simp; omega) _
      have l1 : b < wr.heap.size := Nat.lt_of_lt_of_le hbl hb.size
      have l2 : b' < wr.heap.size := Nat.lt_of_lt_of_le hbl' hb.size
      have HEq := Lib.hid heq; have HSt := Lib.hid hst; have HB2 := Lib.hid hb2
      clear hx hy rb ru heq hst hb hb2 hc hc' g5 g6
      obtain ⟨E, hE⟩ : ∃ E, decide (x = y) = E := ⟨_, rfl⟩
      rw [hE] at hC
      have HE := Lib.hid hE
      clear hE
      go_wp2_with fail
      refine hC.mono ?_; rintro e w3 ⟨rfl, hb3⟩
      have hB3 := HB2.out.trans (hb3.mono HB2.out.size)
      clear hC hb3 x0 x1 x2 x3 y0 y1 y2 y3
      cases E with
      | false =>
        have hz : Z = false := by rw [HEq.out]; exact decide_eq_false fun h => of_decide_eq_false HE.out (HSt.out.1 h).1
        have HZ2 := Lib.hid hz
        clear hz
        go_wp2_with fail
        go_ret
        exact ⟨by rw [HZ2.out]; rfl, hB3⟩
      | true =>
        have heq2 : Z = decide (l.drop (k + 1) = m.drop (k + 1)) := by
          rw [HEq.out]
          exact decide_eq_decide.2 (HSt.out.trans ⟨fun h => h.2, fun h => ⟨of_decide_eq_true HE.out, h⟩⟩)
        have HEq2 := Lib.hid heq2
        clear heq2
        go_wp2_with fail
        go_roundw
        case rel => exact ⟨k + 1, by go_num, by omega, HEq2.out, hB3⟩
        case measure => simp [intOf]; omega
    · obtain rfl : k = n := by omega
      have hz : Z = true := by
        rw [heq, List.drop_eq_nil_of_le (by rw [HN.out]; exact Nat.le_refl _), List.drop_eq_nil_of_le (by rw [HN2.out]; exact Nat.le_refl _)]; rfl
      have HZ2 := Lib.hid hz
      clear hz heq
      go_wp2_with fail
      go_ret
      exact ⟨by rw [HZ2.out]; rfl, hb⟩

set_option maxRecDepth 100000 in
set_option maxHeartbeats 2000000 in
theorem CSame_any (da db : Int) (xs ys : List Sm.Sv) (v1 v2 : Value) (w : World) (h1 : Svs w v1 xs) (h2 : Svs w v2 ys) :
    Calls Tryz.prog 15 #[.agg #[.int .i64 da, v1], .agg #[.int .i64 db, v2]] w fun e w' => e = .returned (.bool (decide (da = db ∧ xs = ys))) ∧ Below w.heap.size w w' := by
  obtain ⟨a1, c1, rfl⟩ := h1.shape
  obtain ⟨a2, c2, rfl⟩ := h2.shape
  have hb : Below w.heap.size w ((w.alloc (.cells #[.int .i64 da, .slice a1 xs.length c1] 24)).alloc (.cells #[.int .i64 db, .slice a2 ys.length c2] 24)) := ((Below.refl w.heap.size w).alloc (Nat.le_refl _) _).alloc (by simp) _
  have hC := EqualS_any xs ys _ _ ((w.alloc (.cells #[.int .i64 da, .slice a1 xs.length c1] 24)).alloc (.cells #[.int .i64 db, .slice a2 ys.length c2] 24)) ((h1.alloc _).alloc _) ((h2.alloc _).alloc _)
  obtain ⟨D, hD⟩ : ∃ D, decide (xs = ys) = D := ⟨_, rfl⟩
  rw [hD] at hC
  have HB := Lib.hid hb; have HD := Lib.hid hD
  clear h1 h2 hb hD
  by_cases e : da = db
  · have hz : decide (da = db ∧ xs = ys) = D := by rw [← HD.out]; exact decide_eq_decide.2 ⟨fun h => h.2, fun h => ⟨e, h⟩⟩
    rw [hz]
    subst e
    clear hz
    go_enter Tryz.func15, Tryz.ntmps15
    go_wp2_with fail
    refine hC.mono ?_; rintro e w' ⟨rfl, hb2⟩
    clear hC
    go_wp2_with fail
    go_ret
    exact ⟨rfl, HB.out.trans (hb2.mono HB.out.size)⟩
  · have hz : decide (da = db ∧ xs = ys) = false := decide_eq_false fun h => e h.1
    rw [hz]
    clear hz hC
    go_enter Tryz.func15, Tryz.ntmps15
    go_wp2_with fail
    go_ret
    exact ⟨rfl, HB.out⟩
end Go.Proofs.YtfdchdnkblmijaaGreatDoor
end

section
namespace Go.Proofs.YtfdchdnkblmijaaGreatDoor
open Go.RowKit

namespace Rely
variable {P : Program} {l : List Oper} {C : World → Prop} {G : World → World → Prop} {R : Nat → Value → World → Prop} {a0 : Act}

def valR (l : List Oper) (ρ : Operand → Value) (k : Nat) : Value :=
  match l[k]? with
  | some o => (match o.dst with | some d => ρ (.tmp d) | none => undef)
  | none => undef
abbrev valAt (l : List Oper) (a : Act) (k : Nat) : Value := valR l a.eval k
def stored (o : Oper) (v : Value) : Value := match o.dst with | some _ => v | none => undef

structure Inv (l : List Oper) (C : World → Prop) (R : Nat → Value → World → Prop) (a0 : Act) (listed : Array Bool) (a : Act) (w : World) : Prop where
  cls : C w
  lsize : listed.size = l.length
  size : a.tmps.size = a0.tmps.size
  defers : a.defers = a0.defers
  old : ∀ s, (∀ o ∈ l, o.dst ≠ some s) → a.tmps[s]? = a0.tmps[s]?
  new : ∀ k, k < l.length → listed.getD k false = true → R k (valAt l a k) w

/-- What is to be shown of one operation. -/
def Ob (P : Program) (l : List Oper) (C : World → Prop) (G : World → World → Prop) (R : Nat → Value → World → Prop) (a0 : Act) (k : Nat) (o : Oper) : Prop :=
  ∀ (a : Act) (w : World), C w → (∀ s, (l.all fun o' => !(o'.dst == some s)) = true → a.eval (.tmp s) = a0.eval (.tmp s)) →
    (∀ j, (o.after.toList.any fun e => Region.binds .any e && e.on == j) = true → j < l.length → R j (valAt l a j) w) →
    (Region.wanted o (yielded l.toArray a.tmps) = true → ∀ (K : Act → World → Prop) (Q : Exit → Act → World → Prop), (∀ v w', C w' → G w w' → R k (stored o v) w' → K (a.put o.dst v) w') → o.wp P a w K Q) ∧
    (Region.wanted o (yielded l.toArray a.tmps) = false → G w w ∧ R k undef w)
def AllOb (P : Program) (l : List Oper) (C : World → Prop) (G : World → World → Prop) (R : Nat → Value → World → Prop) (a0 : Act) : Nat → List Oper → Prop
  | _, [] => True
  | k, o :: r => Ob P l C G R a0 k o ∧ AllOb P l C G R a0 (k + 1) r
def AllR (R : Nat → Value → World → Prop) (vs : Nat → Value) (w : World) : Nat → List Oper → Prop
  | _, [] => True
  | k, _ :: r => R k (vs k) w ∧ AllR R vs w (k + 1) r
def putAll : List Oper → Nat → (Nat → Value) → Act → Act
  | [], _, _, a => a
  | o :: r, k, vs, a => putAll r (k + 1) vs (a.put o.dst (vs k))

theorem allOb_at : ∀ {r : List Oper} {k : Nat}, AllOb P l C G R a0 k r → ∀ {j : Nat} {o : Oper}, r[j]? = some o → Ob P l C G R a0 (k + j) o
  | [], _, _, j, o, h => by simp at h
  | x :: r, k, hr, 0, o, h => by simp at h; subst h; exact hr.1
  | x :: r, k, hr, j + 1, o, h => by
    have := allOb_at hr.2 (j := j) (o := o) (by simpa using h)
    rwa [show k + (j + 1) = k + 1 + j by omega]
theorem allR_of {vs : Nat → Value} {w : World} : ∀ {r : List Oper} {k : Nat}, (∀ j, j < r.length → R (k + j) (vs (k + j)) w) → AllR R vs w k r
  | [], _, _ => trivial
  | x :: r, k, h => ⟨h 0 (by simp), allR_of fun j hj => by
      have := h (j + 1) (by simp; omega)
      rwa [show k + (j + 1) = k + 1 + j by omega] at this⟩
theorem put_size (a : Act) (d : Option Tmp) (v : Value) : (a.put d v).tmps.size = a.tmps.size := by cases d <;> simp [Act.put]
theorem put_defers (a : Act) (d : Option Tmp) (v : Value) : (a.put d v).defers = a.defers := by cases d <;> rfl
theorem put_ne (a : Act) (d : Option Tmp) (v : Value) (s : Nat) (h : d ≠ some s) : (a.put d v).tmps[s]? = a.tmps[s]? := by
  cases d with
  | none => rfl
  | some d => simp only [Act.put]; rw [Array.getElem?_setIfInBounds_ne (fun e => h (by rw [e]))]
theorem put_self (a : Act) (d : Tmp) (v : Value) (h : d < a.tmps.size) : (a.put (some d) v).tmps[d]? = some v := by
  simp [Act.put, h]
theorem eval_getD (a : Act) (s : Nat) : a.eval (.tmp s) = (a.tmps[s]?).getD undef := by simp [Act.eval]
theorem putAll_size : ∀ (r : List Oper) (k : Nat) (vs : Nat → Value) (a : Act), (putAll r k vs a).tmps.size = a.tmps.size
  | [], _, _, _ => rfl
  | _ :: r, k, vs, _ => (putAll_size r (k + 1) vs _).trans (put_size _ _ _)
theorem putAll_defers : ∀ (r : List Oper) (k : Nat) (vs : Nat → Value) (a : Act), (putAll r k vs a).defers = a.defers
  | [], _, _, _ => rfl
  | _ :: r, k, vs, _ => (putAll_defers r (k + 1) vs _).trans (put_defers _ _ _)
theorem putAll_old (s : Nat) : ∀ (r : List Oper) (k : Nat) (vs : Nat → Value) (a : Act), (∀ o ∈ r, o.dst ≠ some s) → (putAll r k vs a).tmps[s]? = a.tmps[s]?
  | [], _, _, _, _ => rfl
  | o :: r, k, vs, a, h => (putAll_old s r (k + 1) vs _ fun o' ho' => h o' (by simp [ho'])).trans (put_ne _ _ _ _ (h o (by simp)))
theorem putAll_new {d : Nat} : ∀ {r : List Oper} {k : Nat} {vs : Nat → Value} {a : Act} {j : Nat} {o : Oper}, (r.filterMap (·.dst)).Nodup → d < a.tmps.size → r[j]? = some o → o.dst = some d → (putAll r k vs a).tmps[d]? = some (vs (k + j))
  | [], _, _, _, _, _, _, _, h, _ => by simp at h
  | x :: r, k, vs, a, 0, o, hn, hd, h, ho => by
    simp at h; subst h
    rw [List.filterMap_cons_some ho, List.nodup_cons] at hn
    show (putAll r (k + 1) vs (a.put x.dst (vs k))).tmps[d]? = some (vs k)
    rw [putAll_old d r _ _ _ (fun o' ho' e => hn.1 (List.mem_filterMap.2 ⟨o', ho', e⟩)), ho, put_self _ _ _ hd]
  | x :: r, k, vs, a, j + 1, o, hn, hd, h, ho => by
    have hn' : (r.filterMap (·.dst)).Nodup := by
      cases hx : x.dst with
      | none => rwa [List.filterMap_cons_none hx] at hn
      | some y => rw [List.filterMap_cons_some hx] at hn; exact (List.nodup_cons.1 hn).2
    have := putAll_new (k := k + 1) (vs := vs) (a := a.put x.dst (vs k)) (j := j) (o := o) hn' (by rw [put_size]; exact hd) (by simpa using h) ho
    rw [show k + (j + 1) = k + 1 + j by omega]
    exact this
/-- The frame at the end, written as the text's order would write it. -/
theorem frame_eq {a : Act} (hnd : (l.filterMap (·.dst)).Nodup) (hsz : ∀ d ∈ l.filterMap (·.dst), d < a0.tmps.size) (hs : a.tmps.size = a0.tmps.size) (hdf : a.defers = a0.defers)
    (hold : ∀ s, (∀ o ∈ l, o.dst ≠ some s) → a.tmps[s]? = a0.tmps[s]?) : a = putAll l 0 (valAt l a) a0 := by
  have ht : a.tmps = (putAll l 0 (valAt l a) a0).tmps := by
    apply Array.ext_getElem?
    intro s
    by_cases h : ∀ o ∈ l, o.dst ≠ some s
    · rw [hold s h, putAll_old s l _ _ _ h]
    · simp only [Classical.not_forall, Classical.not_not] at h
      obtain ⟨o, ho, hd⟩ := h
      obtain ⟨j, hj⟩ := List.mem_iff_getElem?.1 ho
      have hlt := hsz s (List.mem_filterMap.2 ⟨o, ho, hd⟩)
      rw [putAll_new hnd hlt hj hd, Nat.zero_add]
      unfold valAt valR
      rw [hj]; simp only [hd, eval_getD]
      rw [Array.getElem?_eq_getElem (by omega)]; rfl
  have hd : a.defers = (putAll l 0 (valAt l a) a0).defers := hdf.trans (putAll_defers _ _ _ _).symm
  cases a; cases hp : putAll l 0 _ a0
  rw [hp] at ht hd
  cases ht; cases hd
  rfl
theorem countP_less {f g : Nat → Bool} (h : ∀ x, g x = true → f x = true) {i : Nat} (hf : f i = true) (hg : g i = false) : ∀ {L : List Nat}, i ∈ L → L.countP g + 1 ≤ L.countP f
  | [], hi => by cases hi
  | x :: L, hi => by
    have hle : L.countP g ≤ L.countP f := List.countP_mono_left fun x _ => h x
    rw [List.countP_cons, List.countP_cons]
    rcases List.mem_cons.1 hi with rfl | hi
    · simp [hf, hg]; exact hle
    · have := countP_less h hf hg hi
      by_cases hx : g x = true
      · simp [hx, h x hx]; omega
      · simp [hx]; omega
/-- Where nothing is ready all have come up. -/
theorem all_listed {listed : Array Bool} (hls : listed.size = l.length) (hac : ∀ k o, l[k]? = some o → ∀ e ∈ o.after, Region.binds .any e = true → e.on < k) (h : Region.ready .any l.toArray listed = []) : ∀ k, k < l.length → listed.getD k false = true := by
  intro k
  induction k using Nat.strongRecOn with
  | _ k ih =>
    intro hk
    apply Classical.byContradiction
    intro hn
    have : k ∈ Region.ready .any l.toArray listed := by
      refine mem_ready.2 ⟨?_, l[k], by simp [hk], fun e he hb => ?_⟩
      · simp [hls, hk] at hn ⊢; exact hn
      · have := hac k l[k] (by simp [hk]) e he hb
        exact ih _ this (by omega)
    rw [h] at this; cases this

theorem wpAny_of_inv {Q : Exit → Act → World → Prop} (hnd : (l.filterMap (·.dst)).Nodup) (hsz : ∀ d ∈ l.filterMap (·.dst), d < a0.tmps.size)
    (hac : ∀ k o, l[k]? = some o → ∀ e ∈ o.after, Region.binds .any e = true → e.on < k)
    (hst : ∀ k v w w', C w → C w' → G w w' → R k v w → R k v w') (hob : AllOb P l C G R a0 0 l)
    (hQ : ∀ (vs : Nat → Value) (w' : World), C w' → AllR R vs w' 0 l → Q .normal (putAll l 0 vs a0) w') :
    ∀ (fuel : Nat) (listed : Array Bool) (a : Act) (w : World), (List.range l.length).countP (fun i => !listed.getD i true) ≤ fuel → Inv l C R a0 listed a w → wpAny P .any l.toArray Q fuel listed a w := by
  have fin : ∀ (listed : Array Bool) (a : Act) (w : World), Inv l C R a0 listed a w → (∀ k, k < l.length → listed.getD k false = true) → Q .normal a w := by
    intro listed a w hi hall
    have := hQ (valAt l a) w hi.cls (allR_of fun j hj => by rw [Nat.zero_add]; exact hi.new j hj (hall j hj))
    rwa [← frame_eq hnd hsz hi.size hi.defers hi.old] at this
  intro fuel
  induction fuel with
  | zero =>
    intro listed a w hc hi
    have hr : Region.ready .any l.toArray listed = [] := by
      apply List.eq_nil_iff_forall_not_mem.2
      intro j hj
      obtain ⟨h1, o, ho, -⟩ := mem_ready.1 hj
      have hlt : j < l.length := by
        have := (Array.getElem?_eq_some_iff.1 ho).1; simpa using this
      have : (List.range l.length).countP (fun i => !listed.getD i true) = 0 := Nat.le_zero.1 hc
      have := List.countP_eq_zero.1 this j (List.mem_range.2 hlt)
      simp [h1] at this
    exact ⟨hr, fin listed a w hi (all_listed hi.lsize hac hr)⟩
  | succ fuel ih =>
    intro listed a w hc hi
    refine ⟨fun hr => fin listed a w hi (all_listed hi.lsize hac hr), fun i hri => ?_⟩
    obtain ⟨h1, o, ho, hall⟩ := mem_ready.1 hri
    have hol : l[i]? = some o := by simpa using ho
    have hlt : i < l.length := (List.getElem?_eq_some_iff.1 hol).1
    have hO := allOb_at hob hol
    rw [Nat.zero_add] at hO
    have hO' := hO a w hi.cls (fun s hs => by rw [eval_getD, eval_getD, hi.old s (fun o' ho' e => by have := List.all_eq_true.1 hs o' ho'; simp [e] at this)]) (fun j hj hl => by
      obtain ⟨e, hem, he⟩ := List.any_eq_true.1 hj
      simp only [Bool.and_eq_true, beq_iff_eq] at he
      exact he.2 ▸ hi.new e.on (by rw [he.2]; exact hl) (hall _ (Array.mem_def.2 hem) he.1))
    have hcount : (List.range l.length).countP (fun j => !(listed.setIfInBounds i true).getD j true) ≤ fuel := by
      have := countP_less (f := fun j => !listed.getD j true) (g := fun j => !(listed.setIfInBounds i true).getD j true) (fun x hx => by
        by_cases e : i = x
        · subst e; simp [hi.lsize, hlt] at hx
        · simp [Array.getElem?_setIfInBounds_ne e] at hx ⊢; exact hx) (i := i) (by simp [h1]) (by simp [hi.lsize, hlt]) (List.mem_range.2 hlt)
      omega
    have step : ∀ v w', C w' → G w w' → R i (stored o v) w' → wpAny P .any l.toArray Q fuel (listed.setIfInBounds i true) (a.put o.dst v) w' := by
      intro v w' hC hG hR
      refine ih _ _ _ hcount ⟨hC, by simp [hi.lsize], by rw [put_size, hi.size], by rw [put_defers, hi.defers], fun s hs => ?_, fun k hk hkl => ?_⟩
      · rw [put_ne _ _ _ _ (hs o (List.mem_of_getElem? hol)), hi.old s hs]
      · by_cases e : i = k
        · subst e
          have : valAt l (a.put o.dst v) i = stored o v := by
            unfold valAt valR stored
            rw [hol]
            cases hd : o.dst with
            | none => simp [hd]
            | some d =>
              simp only [hd]
              rw [eval_getD, put_self _ _ _ (by rw [hi.size]; exact hsz d (List.mem_filterMap.2 ⟨o, List.mem_of_getElem? hol, hd⟩))]; rfl
          rw [this]; exact hR
        · have hkl' : listed.getD k false = true := by
            simp [Array.getElem?_setIfInBounds_ne e] at hkl ⊢; exact hkl
          have : valAt l (a.put o.dst v) k = valAt l a k := by
            unfold valAt valR
            cases hk2 : l[k]? with
            | none => rfl
            | some o2 =>
              cases hd : o2.dst with
              | none => simp [hd]
              | some d =>
                simp only [hd]
                rw [eval_getD, eval_getD, put_ne]
                intro e2
                exact e (nodup_at hnd hol hk2 e2 hd)
          rw [this]
          exact hst k _ w w' hi.cls hC hG (hi.new k hk hkl')
    unfold wpOp
    simp only [ho]
    by_cases hw : Region.wanted o (yielded l.toArray a.tmps) = true
    · rw [if_pos hw]
      exact .inl (hO'.1 hw _ _ fun v w' hC hG hR => step v w' hC hG hR)
    · rw [if_neg hw]
      have hx := hO'.2 (by simpa using hw)
      exact step undef w hi.cls hx.1 (by unfold stored; cases o.dst <;> exact hx.2)
where
  nodup_at {l : List Oper} {i k : Nat} {o o2 : Oper} {d : Tmp} (hnd : (l.filterMap (·.dst)).Nodup) (hi : l[i]? = some o) (hk : l[k]? = some o2) (h1 : o.dst = some d) (h2 : o2.dst = some d) : i = k := by
    induction l generalizing i k with
    | nil => simp at hi
    | cons x r ih =>
      have hn' : (r.filterMap (·.dst)).Nodup := by
        cases hx : x.dst with
        | none => rwa [List.filterMap_cons_none hx] at hnd
        | some y => rw [List.filterMap_cons_some hx] at hnd; exact (List.nodup_cons.1 hnd).2
      cases i with
      | zero =>
        cases k with
        | zero => rfl
        | succ k =>
          simp at hi hk; subst hi
          rw [List.filterMap_cons_some h1, List.nodup_cons] at hnd
          exact absurd (List.mem_filterMap.2 ⟨o2, List.mem_of_getElem? hk, h2⟩) hnd.1
      | succ i =>
        cases k with
        | zero =>
          simp at hi hk; subst hk
          rw [List.filterMap_cons_some h2, List.nodup_cons] at hnd
          exact absurd (List.mem_filterMap.2 ⟨o, List.mem_of_getElem? hi, h1⟩) hnd.1
        | succ k =>
          have h9 := ih hn' (by simpa using hi) (by simpa using hk)
          omega

/-- **A region that draws its order**: if every operation, in whatever order, yields what its predicate says and keeps what the others' say, then the region ends in all of them. -/
theorem wp_region_rely {id : Nat} {Q : Exit → Act → World → Prop} {w : World} (C : World → Prop) (G : World → World → Prop) (R : Nat → Value → World → Prop) (hm : P.follows .mixedOrders = true)
    (hnd : (l.filterMap (·.dst)).Nodup) (hsz : (l.filterMap (·.dst)).all (fun d => decide (d < a0.tmps.size)) = true)
    (hac : (l.zipIdx.all fun p => p.1.after.all fun e => !Region.binds .any e || decide (e.on < p.2)) = true)
    (hC : C { w with drawn := w.drawn + 1 }) (hst : ∀ k v w w', C w → C w' → G w w' → R k v w → R k v w') (hob : AllOb P l C G R a0 0 l)
    (hQ : ∀ (vs : Nat → Value) (w' : World), C w' → AllR R vs w' 0 l → Q .normal (putAll l 0 vs a0) w') : (Code.region id l.toArray true).wp P Q a0 w := by
  refine wp_region_any hm (wpAny_of_inv hnd (fun d hd => by simpa using List.all_eq_true.1 hsz d hd) (fun k o hk e he hb => ?_) hst hob hQ _ _ _ _ ?_ ⟨hC, by simp, rfl, rfl, fun _ _ => rfl, fun k hk hl => ?_⟩)
  · have h1 := List.all_eq_true.1 hac (o, k) (List.mem_zipIdx_iff_getElem?.2 (by simpa using hk))
    have h2 := Array.all_eq_true_iff_forall_mem.1 h1 e he
    simpa [hb] using h2
  · have := List.countP_le_length (p := fun i => !(Array.replicate l.toArray.size false).getD i true) (l := List.range l.length)
    simpa using this
  · simp [hk] at hl
theorem allR_at {vs : Nat → Value} {w : World} : ∀ {r : List Oper} {k : Nat}, AllR R vs w k r → ∀ j, j < r.length → R (k + j) (vs (k + j)) w
  | [], _, _, _, h => by cases h
  | _ :: _, _, hr, 0, _ => hr.1
  | _ :: r, k, hr, j + 1, h => by
    have := allR_at hr.2 j (by simpa using h)
    rwa [show k + (j + 1) = k + 1 + j by omega]
theorem allOb_cons {k : Nat} {o : Oper} {r : List Oper} (h : Ob P l C G R a0 k o) (hr : AllOb P l C G R a0 (k + 1) r) : AllOb P l C G R a0 k (o :: r) := ⟨h, hr⟩
theorem allOb_nil {k : Nat} : AllOb P l C G R a0 k [] := trivial
theorem yielded_of {a : Act} {j : Nat} {b : Bool} (h : valAt l a j = .bool b) : yielded l.toArray a.tmps j = some b := by
  unfold valAt valR at h
  unfold yielded
  cases hj : l[j]? with
  | none => rw [hj] at h; cases h
  | some o =>
    rw [hj] at h
    simp only at h
    cases hd : o.dst with
    | none => rw [hd] at h; cases h
    | some d =>
      rw [hd] at h
      simp only [eval_getD] at h
      cases ht : a.tmps[d]? with
      | none => rw [ht] at h; cases h
      | some v =>
        rw [ht] at h
        simp at h; subst h
        simp [hj, hd, ht]
abbrev Runs (P : Program) (l : List Oper) (C : World → Prop) (G : World → World → Prop) (R : Nat → Value → World → Prop) (a0 : Act) (k : Nat) (o : Oper) : Prop :=
  ∀ (a : Act) (ρ : Operand → Value), (∀ v, ρ (.const v) = v) → (∀ g, ρ (.global g) = .pointer (some ⟨g, 0, none⟩)) → (∀ f, ρ (.func f) = .func (.func f) #[] #[]) →
    ∀ (w : World), C w → (∀ s, (l.all fun o' => !(o'.dst == some s)) = true → ρ (.tmp s) = a0.eval (.tmp s)) →
    (∀ j, (o.after.toList.any fun e => Region.binds .any e && e.on == j) = true → j < l.length → R j (valR l ρ j) w) →
    ∀ (K : Act → World → Prop) (Q : Exit → Act → World → Prop), (∀ v w', C w' → G w w' → R k (stored o v) w' → K (a.put o.dst v) w') → o.upon P a K Q ((execOp ρ o).run P w)
theorem upon_move {o : Oper} {a : Act} {ρ : Operand → Value} {w : World} {K : Act → World → Prop} {Q : Exit → Act → World → Prop} (x : Operand) (h : o.op = .move x) (hk : K (a.put o.dst (ρ x)) w) : o.upon P a K Q ((execOp ρ o).run P w) := by
  simp [execOp, h, Oper.upon]; exact hk
theorem upon_assign {o : Oper} {a : Act} {ρ : Operand → Value} {w : World} {K : Act → World → Prop} {Q : Exit → Act → World → Prop} (x : Operand) (h : o.op = .assign x) (hk : K (a.put o.dst (ρ x)) w) : o.upon P a K Q ((execOp ρ o).run P w) := by
  simp [execOp, h, Oper.upon]; exact hk
theorem ob_plain {k : Nat} {o : Oper} (hg : o.guard = none) (h : Runs P l C G R a0 k o) : Ob P l C G R a0 k o := fun a w hC hold hdep =>
  ⟨fun _ K Q hK => h a a.eval (fun _ => rfl) (fun _ => rfl) (fun _ => rfl) w hC hold hdep K Q hK, fun hw => by unfold Region.wanted at hw; rw [hg] at hw; cases hw⟩
theorem ob_want {k : Nat} {o : Oper} (j : Nat) (b : Bool) (hg : o.guard = some (j, b)) (hd : (o.after.toList.any fun e => Region.binds .any e && e.on == j) = true) (hj : j < l.length) (hR : ∀ v w, R j v w → v = .bool b) (h : Runs P l C G R a0 k o) : Ob P l C G R a0 k o := fun a w hC hold hdep =>
  ⟨fun _ K Q hK => h a a.eval (fun _ => rfl) (fun _ => rfl) (fun _ => rfl) w hC hold hdep K Q hK, fun hw => by
    unfold Region.wanted at hw; rw [hg] at hw
    have := yielded_of (hR _ _ (hdep j hd hj))
    simp [this] at hw⟩
theorem ob_skip {k : Nat} {o : Oper} (j : Nat) (b : Bool) (hg : o.guard = some (j, b)) (hd : (o.after.toList.any fun e => Region.binds .any e && e.on == j) = true) (hj : j < l.length) (hR : ∀ v w, R j v w → v = .bool (!b)) (hG : ∀ w, G w w) (hu : ∀ w, R k undef w) : Ob P l C G R a0 k o := fun a w hC hold hdep =>
  ⟨fun hw => by
    unfold Region.wanted at hw; rw [hg] at hw
    have := yielded_of (hR _ _ (hdep j hd hj))
    simp [this] at hw, fun _ => ⟨hG w, hu w⟩⟩
end Rely
end Go.Proofs.YtfdchdnkblmijaaGreatDoor
end

section
namespace Go.Proofs.YtfdchdnkblmijaaGreatDoor
open Go.RowKit

/-- The items of a step's first levels. -/
def stK (da : Int) (xs : List Sm.Sv) (db : Int) (ys : List Sm.Sv) (k : Nat) : List Dm.It := Cm.inI da :: Cm.inI db :: Cm.stepsO xs 0 (ys.take k)
theorem stepsO_snoc (xs : List Sm.Sv) : ∀ (l : List Sm.Sv) (i : Nat) (s : Sm.Sv), Cm.stepsO xs i (l ++ [s]) = Cm.stepsO xs i l ++ [Cm.stepO xs (i + l.length) s]
  | [], i, s => rfl
  | x :: l, i, s => by
    show Cm.stepO xs i x :: Cm.stepsO xs (i + 1) (l ++ [s]) = _
    rw [stepsO_snoc xs l (i + 1) s, show i + (x :: l).length = i + 1 + l.length by simp; omega]; rfl
theorem stK_zero (da : Int) (xs : List Sm.Sv) (db : Int) (ys : List Sm.Sv) : stK da xs db ys 0 = [Cm.inI da, Cm.inI db] := rfl
theorem stK_succ {da : Int} {xs : List Sm.Sv} {db : Int} {ys : List Sm.Sv} {k : Nat} (hk : k < ys.length) : stK da xs db ys (k + 1) = stK da xs db ys k ++ [Cm.stepO xs k (ys[k]?.getD Cm.nil)] := by
  unfold stK
  rw [List.take_add_one, List.getElem?_eq_getElem hk]
  show Cm.inI da :: Cm.inI db :: Cm.stepsO xs 0 (ys.take k ++ [ys[k]]) = _
  rw [stepsO_snoc, Nat.zero_add, List.length_take, Nat.min_eq_left (by omega)]; rfl
theorem stepsO_len (xs : List Sm.Sv) : ∀ (l : List Sm.Sv) (i : Nat), (Cm.stepsO xs i l).length = l.length
  | [], _ => rfl
  | x :: l, i => by show (Cm.stepsO xs (i + 1) l).length + 1 = _; rw [stepsO_len xs l (i + 1)]; rfl
theorem stK_len {da : Int} {xs : List Sm.Sv} {db : Int} {ys : List Sm.Sv} {k : Nat} (hk : k ≤ ys.length) : (stK da xs db ys k).length = k + 2 := by
  show (Cm.stepsO xs 0 (ys.take k)).length + 1 + 1 = _
  rw [stepsO_len, List.length_take, Nat.min_eq_left hk]
theorem stK_all (da : Int) (xs : List Sm.Sv) (db : Int) (ys : List Sm.Sv) : Dm.It.mk 48 [] (stK da xs db ys ys.length) = Cm.stepItem da xs db ys := by
  unfold stK Cm.stepItem; rw [List.take_length]
theorem may_stepItem {da db : Int} {xs ys : List Sm.Sv} (ha : Cm.good da xs) (hb : Cm.good db ys) : Dm.may 8 (Cm.stepItem da xs db ys) = true := Cm.may_seq (Cm.may_steps ha hb)
theorem own_step {n : Nat} {g : Option Nat} {w w' : World} {vb vl : Value} {x : Dm.It} (h : Own n g w vb vl x) (hb : Below w.heap.size w w') : Own n g w' vb vl x := h.kept (Keep.of_below hb (Nat.le_refl _))
/-- A level of the second one, as an item. -/
theorem step_same {xs : List Sm.Sv} {k : Nat} {s : Sm.Sv} (h : k < xs.length) (h2 : (xs[k]?.getD Cm.nil).b = s.b) : Cm.stepO xs k s = Cm.inT := if_pos ⟨h, h2⟩
theorem step_other {xs : List Sm.Sv} {k : Nat} {s : Sm.Sv} (h : ¬ (k < xs.length ∧ (xs[k]?.getD Cm.nil).b = s.b)) : Cm.stepO xs k s = Cm.inO s.b := if_neg h

/-- The item of a number, in memory of its own. -/
def PI (n0 : Nat) (n : Int) (v : Value) (w : World) : Prop := ∃ a c, v = .agg #[.int .i64 2, .slice a (intB n).length c, .slice none 0 0] ∧ Own n0 none w (.slice a (intB n).length c) (.slice none 0 0) (Cm.inI n)
theorem PI.step {n0 : Nat} {n : Int} {v : Value} {w w' : World} (h : PI n0 n v w) (hb : Below w.heap.size w w') : PI n0 n v w' := by
  obtain ⟨a, c, e, ho⟩ := h
  exact ⟨a, c, e, own_step ho hb⟩
/-- A row of items of the call's own. -/
def PL (n0 : Nat) (l : List Dm.It) (v : Value) (w : World) : Prop := ∃ a n c xs, v = .slice a n c ∧ w.ownsRow n0 45 3 (.slice a n c) l.length xs ∧ Cells n0 (Value.slice a n c).ownBlock w xs l
theorem PL.step {n0 : Nat} {l : List Dm.It} {v : Value} {w w' : World} (h : PL n0 l v w) (hb : Below w.heap.size w w') : PL n0 l v w' := by
  obtain ⟨a, n, c, xs, e, ho, hc⟩ := h
  exact ⟨a, n, c, xs, e, owns_keep ho hb, hc.kept (Keep.of_below hb (Nat.le_refl _))⟩

set_option maxRecDepth 100000 in
set_option maxHeartbeats 4000000 in
theorem CDelta_any (da db : Int) (v1 v2 : Value) (xs ys : List Sm.Sv) (w : World) (hk : KindsAt w) (h1 : Svs w v1 xs) (h2 : Svs w v2 ys) (l1 : xs.length ≤ 1000000) (l2 : ys.length ≤ 1000000) :
    Calls Tryz.prog 12 #[.agg #[.int .i64 da, v1], .agg #[.int .i64 db, v2]] w fun e w' => BytR w' e (Cm.deltaR da xs db ys) ∧ Below w.heap.size w w' := by
  obtain ⟨a1, c1, rfl⟩ := h1.shape
  obtain ⟨a2, c2, rfl⟩ := h2.shape
  obtain ⟨B, hB⟩ : ∃ B, w.heap.size = B := ⟨_, rfl⟩
  obtain ⟨n1, hn1⟩ : ∃ n, xs.length = n := ⟨_, rfl⟩
  obtain ⟨n2, hn2⟩ : ∃ n, ys.length = n := ⟨_, rfl⟩
  rw [hn1] at h1 ⊢
  rw [hn2] at h2 ⊢
  have qa := ((Duo.new w 24 (.int .i64 da) (.slice a1 n1 c1)).alloc (.cells #[.int .i64 db, .slice a2 n2 c2] 24)).alloc (.cells #[.int .i64 da, .slice a1 n1 c1, .int .i64 db, .slice a2 n2 c2] 24)
  have qb := (Duo.new (w.alloc (.cells #[.int .i64 da, .slice a1 n1 c1] 24)) 24 (.int .i64 db) (.slice a2 n2 c2)).alloc (.cells #[.int .i64 da, .slice a1 n1 c1, .int .i64 db, .slice a2 n2 c2] 24)
  have hb0 := (((Below.refl w.heap.size w).alloc (Nat.le_refl _) (.cells #[.int .i64 da, .slice a1 n1 c1] 24)).alloc (by simp) (.cells #[.int .i64 db, .slice a2 n2 c2] 24)).alloc (by simp; omega) (.cells #[.int .i64 da, .slice a1 n1 c1, .int .i64 db, .slice a2 n2 c2] 24)
  have hcl : ∀ j u, [Value.int .i64 da, .slice a1 n1 c1, .int .i64 db, .slice a2 n2 c2][j]? = some u → (((w.alloc (.cells #[.int .i64 da, .slice a1 n1 c1] 24)).alloc (.cells #[.int .i64 db, .slice a2 n2 c2] 24)).alloc (.cells #[.int .i64 da, .slice a1 n1 c1, .int .i64 db, .slice a2 n2 c2] 24)).cell? ⟨B + 2, j, none⟩ = some u := by
    intro j u hj
    have := cell_alloc ((w.alloc (.cells #[.int .i64 da, .slice a1 n1 c1] 24)).alloc (.cells #[.int .i64 db, .slice a2 n2 c2] 24)) #[.int .i64 da, .slice a1 n1 c1, .int .i64 db, .slice a2 n2 c2] 24 j
    rw [World.size_alloc, World.size_alloc, hB] at this
    rw [this]; simpa using hj
  have hsz : (((w.alloc (.cells #[.int .i64 da, .slice a1 n1 c1] 24)).alloc (.cells #[.int .i64 db, .slice a2 n2 c2] 24)).alloc (.cells #[.int .i64 da, .slice a1 n1 c1, .int .i64 db, .slice a2 n2 c2] 24)).heap.size = B + 3 := by simp [hB]
  rw [World.size_alloc] at qb
  obtain ⟨W, hW⟩ : ∃ W, ((w.alloc (.cells #[.int .i64 da, .slice a1 n1 c1] 24)).alloc (.cells #[.int .i64 db, .slice a2 n2 c2] 24)).alloc (.cells #[.int .i64 da, .slice a1 n1 c1, .int .i64 db, .slice a2 n2 c2] 24) = W := ⟨_, rfl⟩
  rw [hW] at qa qb hb0 hcl hsz
  rw [hB] at qa qb
  have s1 := h1.below hb0; have s2 := h2.below hb0; have k0 := hk.below hb0
  obtain ⟨E1, hE1⟩ : ∃ E, Cm.chk da xs = E := ⟨_, rfl⟩
  obtain ⟨E2, hE2⟩ : ∃ E, Cm.chk db ys = E := ⟨_, rfl⟩
  obtain ⟨Z, hZ⟩ : ∃ R, Cm.deltaR da xs db ys = R := ⟨_, rfl⟩
  rw [hZ]
  have hz : Z = if E1 = 0 then (if E2 = 0 then (if Dm.len (Cm.stepItem da xs db ys) ≤ 8192 then .ok (Dm.bytes (Cm.stepItem da xs db ys)) else .error 2) else .error E2) else .error E1 := by rw [← hZ, ← hE1, ← hE2]; rfl
  have hCa : ∀ V, Below W.heap.size W V → Calls Tryz.prog 16 #[.agg #[.int .i64 da, .slice a1 n1 c1]] V fun e w' => e = .returned (.int .i64 E1) ∧ Below V.heap.size V w' := fun V hV => by
    rw [← hE1]; exact CCheck_any da _ xs V (s1.below hV) l1
  have hCb : ∀ V, Below W.heap.size W V → Calls Tryz.prog 16 #[.agg #[.int .i64 db, .slice a2 n2 c2]] V fun e w' => e = .returned (.int .i64 E2) ∧ Below V.heap.size V w' := fun V hV => by
    rw [← hE2]; exact CCheck_any db _ ys V (s2.below hV) l2
  have HW := Lib.hid hW; have HB := Lib.hid hB; have HZ := Lib.hid hz; have HSZ := Lib.hid hsz; have HB0 := Lib.hid hb0; have QA := Lib.hid qa; have QB := Lib.hid qb; have S1 := Lib.hid s1; have S2 := Lib.hid s2; have K0 := Lib.hid k0
  have HE1 := Lib.hid hE1; have HE2 := Lib.hid hE2; have HCL := Lib.hid hcl; have HCA := Lib.hid hCa; have HCB := Lib.hid hCb; have HN1 := Lib.hid hn1; have HN2 := Lib.hid hn2
  have x0 := qa.cell0; have x1 := qa.cell1; have y0 := qb.cell0; have y1 := qb.cell1
  clear hW hB hz hsz hb0 qa qb s1 s2 k0 hE1 hE2 hcl hCa hCb hZ hn1 hn2 h1 h2 hk
  go_enter Tryz.func12, Tryz.ntmps12
  go_wp2_with fail
  rw [HW.out, HB.out]
  clear x0 x1 y0 y1
  go_loopw [7, 8, 16] (fun _ _ i wr => ∃ k : Nat, i = .int .i64 k ∧ k ≤ 2 ∧ Below W.heap.size W wr ∧ (1 ≤ k → E1 = 0) ∧ (2 ≤ k → E2 = 0)) (fun _ _ i _ => 2 - (intOf i).toNat)
  case atStart => exact ⟨0, rfl, by decide, Below.refl _ _, fun h => by omega, fun h => by omega⟩
  case round =>
    obtain ⟨k, rfl, hk2, hbr, hq1, hq2⟩ := hrel
    have HBR := Lib.hid hbr
    have hcl : ∀ j u, [Value.int .i64 da, .slice a1 n1 c1, .int .i64 db, .slice a2 n2 c2][j]? = some u → wr.cell? ⟨B + 2, j, none⟩ = some u := fun j u hj => (hbr.cell (p := ⟨B + 2, j, none⟩) (by have := HSZ.out; show B + 2 < _; omega)).trans (HCL.out j u hj)
    have ltB : B + 2 < wr.heap.size := by have := HSZ.out; have := hbr.size; omega
    by_cases hk0 : k = 0
    · subst hk0
      have d0 := hcl 0 _ rfl; have d1 := hcl 1 _ rfl
      have hb1 : Below W.heap.size W (wr.alloc (.cells #[.int .i64 da, .slice a1 n1 c1] 24)) := hbr.alloc hbr.size _
      have hC := HCA.out _ hb1
      have qG := Duo.new wr 24 (.int .i64 da) (.slice a1 n1 c1)
      have g0 := qG.cell0; have g1 := qG.cell1
      have HB1 := Lib.hid hb1
      clear hcl hq1 hq2 hbr hb1 qG
      go_wp2_with fail
      refine hC.mono ?_; rintro e w3 ⟨rfl, hb3⟩
      have hB3 := HB1.out.trans (hb3.mono HB1.out.size)
      have HB3 := Lib.hid hB3
      clear hC hb3 hB3 g0 g1 d0 d1
      by_cases he : E1 = 0
      · subst he
        go_wp2_with fail
        go_roundw
        case rel => exact ⟨1, by go_num, by decide, HB3.out, fun _ => (by simp), fun h => by omega⟩
        case measure => simp [intOf]
      · have hz : Z = .error E1 := by rw [HZ.out, if_neg he]
        have HZ2 := Lib.hid hz
        clear hz
        go_wp2_with fail
        go_ret2
        rw [HZ2.out]
        exact ⟨rfl, HB0.out.trans (HB3.out.mono HB0.out.size)⟩
    by_cases hk1 : k = 1
    · subst hk1
      have d0 := hcl 2 _ rfl; have d1 := hcl 3 _ rfl
      obtain rfl := hq1 (Nat.le_refl _)
      have hb1 : Below W.heap.size W (wr.alloc (.cells #[.int .i64 db, .slice a2 n2 c2] 24)) := hbr.alloc hbr.size _
      have hC := HCB.out _ hb1
      have qG := Duo.new wr 24 (.int .i64 db) (.slice a2 n2 c2)
      have g0 := qG.cell0; have g1 := qG.cell1
      have HB1 := Lib.hid hb1
      clear hcl hq1 hq2 hbr hb1 qG
      go_wp2_with fail
      refine hC.mono ?_; rintro e w3 ⟨rfl, hb3⟩
      have hB3 := HB1.out.trans (hb3.mono HB1.out.size)
      have HB3 := Lib.hid hB3
      clear hC hb3 hB3 g0 g1 d0 d1
      by_cases he : E2 = 0
      · subst he
        go_wp2_with fail
        go_roundw
        case rel => exact ⟨2, by go_num, by decide, HB3.out, fun _ => (by simp), fun _ => (by simp)⟩
        case measure => simp [intOf]
      · have hz : Z = .error E2 := by rw [HZ.out]; simp [he]
        have HZ2 := Lib.hid hz
        clear hz
        go_wp2_with fail
        go_ret2
        rw [HZ2.out]
        exact ⟨rfl, HB0.out.trans (HB3.out.mono HB0.out.size)⟩
    obtain rfl : k = 2 := by omega
    obtain rfl := hq1 (by decide)
    obtain rfl := hq2 (by decide)
    have ga := good_of_chk HE1.out
    have gb := good_of_chk HE2.out
    have GA := Lib.hid ga; have GB := Lib.hid gb
    have qa : Duo wr B 24 (.int .i64 da) (.slice a1 n1 c1) := QA.out.stp hbr
    have qb : Duo wr (B + 1) 24 (.int .i64 db) (.slice a2 n2 c2) := QB.out.stp hbr
    have hbw : Below w.heap.size w wr := HB0.out.trans (hbr.mono HB0.out.size)
    have s1 := S1.out.below hbr; have s2 := S2.out.below hbr; have kr := K0.out.below hbr
    have HBW := Lib.hid hbw; have QA' := Lib.hid qa; have QB' := Lib.hid qb; have S1' := Lib.hid s1; have S2' := Lib.hid s2; have KR := Lib.hid kr
    clear hcl hq1 hq2 hbr hk2 hk0 hk1 ga gb qa qb hbw s1 s2 kr ltB
    have hcA0 : ∀ V, Below wr.heap.size wr V → V.cell? ⟨B, 0, none⟩ = some (.int .i64 da) := fun V h => (h.cell (p := ⟨B, 0, none⟩) QA'.out.lt).trans QA'.out.cell0
    have hcB0 : ∀ V, Below wr.heap.size wr V → V.cell? ⟨B + 1, 0, none⟩ = some (.int .i64 db) := fun V h => (h.cell (p := ⟨B + 1, 0, none⟩) QB'.out.lt).trans QB'.out.cell0
    have hGr : ∀ w : World, Below w.heap.size w w := fun w => Below.refl _ w
    go_upto_region 8 with fail
    refine Rely.wp_region_rely (fun w => Below wr.heap.size wr w) (fun w w' => Below w.heap.size w w') (fun k v w => (match ([some (.pointer (some ⟨B, 0, none⟩)), some (.int .i64 da), none, some (.pointer (some ⟨B + 1, 0, none⟩)), some (.int .i64 db), none, none, none] : List (Option Value))[k]? with | some (some u) => v = u | _ => True) ∧ (k = 2 → PI wr.heap.size da v w) ∧ (k = 5 → PI wr.heap.size db v w) ∧ (k = 6 ∨ k = 7 → PL wr.heap.size (stK da xs db ys 0) v w)) (by kernel_rfl) (by decide) (by kernel_rfl) (by kernel_rfl) ?_ ?_ ?_ ?_
    · exact (Below.refl _ _).drew
    · intro k v w w' _ _ hG h; exact ⟨h.1, fun e => (h.2.1 e).step hG, fun e => (h.2.2.1 e).step hG, fun e => (h.2.2.2 e).step hG⟩
    · refine Rely.allOb_cons (Rely.ob_plain rfl (fun ac ρ hc hg hf w hC hold dep K Q hK => ?_)) ?_
      · have e2 : ρ (.tmp 2) = .pointer (some ⟨B, 0, none⟩) := hold 2 (by decide)
        simp [go_sem, e2]
        exact hK _ _ hC (hGr _) ⟨rfl, (fun h => by cases h), (fun h => by cases h), fun h => by omega⟩
      refine Rely.allOb_cons (Rely.ob_plain rfl (fun ac ρ hc hg hf w hC hold dep K Q hK => ?_)) ?_
      · have e26 : ρ (.tmp 26) = .pointer (some ⟨B, 0, none⟩) := (dep 0 (by decide) (by decide)).1
        simp [go_sem, e26, hcA0 _ hC]
        exact hK _ _ hC (hGr _) ⟨rfl, (fun h => by cases h), (fun h => by cases h), fun h => by omega⟩
      refine Rely.allOb_cons (Rely.ob_plain rfl (fun ac ρ hc hg hf w hC hold dep K Q hK => ?_)) ?_
      · have e27 : ρ (.tmp 27) = .int .i64 da := (dep 1 (by decide) (by decide)).1
        simp [go_sem, hf, e27]
        refine (Int_any da w).mono ?_
        rintro e w4 ⟨⟨a6, c6, rfl, o6⟩, hb⟩
        exact hK _ _ (hC.trans (hb.mono hC.size)) hb ⟨trivial, fun _ => ⟨a6, c6, rfl, o6.mono hC.size⟩, (fun h => by cases h), fun h => by omega⟩
      refine Rely.allOb_cons (Rely.ob_plain rfl (fun ac ρ hc hg hf w hC hold dep K Q hK => ?_)) ?_
      · have e3 : ρ (.tmp 3) = .pointer (some ⟨B + 1, 0, none⟩) := hold 3 (by decide)
        simp [go_sem, e3]
        exact hK _ _ hC (hGr _) ⟨rfl, (fun h => by cases h), (fun h => by cases h), fun h => by omega⟩
      refine Rely.allOb_cons (Rely.ob_plain rfl (fun ac ρ hc hg hf w hC hold dep K Q hK => ?_)) ?_
      · have e29 : ρ (.tmp 29) = .pointer (some ⟨B + 1, 0, none⟩) := (dep 3 (by decide) (by decide)).1
        simp [go_sem, e29, hcB0 _ hC]
        exact hK _ _ hC (hGr _) ⟨rfl, (fun h => by cases h), (fun h => by cases h), fun h => by omega⟩
      refine Rely.allOb_cons (Rely.ob_plain rfl (fun ac ρ hc hg hf w hC hold dep K Q hK => ?_)) ?_
      · have e30 : ρ (.tmp 30) = .int .i64 db := (dep 4 (by decide) (by decide)).1
        simp [go_sem, hf, e30]
        refine (Int_any db w).mono ?_
        rintro e w4 ⟨⟨a6, c6, rfl, o6⟩, hb⟩
        exact hK _ _ (hC.trans (hb.mono hC.size)) hb ⟨trivial, (fun h => by cases h), fun _ => ⟨a6, c6, rfl, o6.mono hC.size⟩, fun h => by omega⟩
      refine Rely.allOb_cons (Rely.ob_plain rfl (fun ac ρ hc hg hf w hC hold dep K Q hK => ?_)) ?_
      · obtain ⟨a1', c1', e28, o28⟩ := (dep 2 (by decide) (by decide)).2.1 rfl
        obtain ⟨a2', c2', e31, o31⟩ := (dep 5 (by decide) (by decide)).2.2.1 rfl
        replace e28 : ρ (.tmp 28) = _ := e28
        replace e31 : ρ (.tmp 31) = _ := e31
        simp [go_sem, e28, e31]
        obtain ⟨s1, s2⟩ := row_two hC.size o28 o31
        refine hK _ _ (hC.alloc hC.size _) ((Below.refl _ w).alloc (Nat.le_refl _) _) ⟨trivial, (fun h => by cases h), (fun h => by cases h), fun _ => ⟨_, _, _, _, rfl, s1, s2⟩⟩
      refine Rely.allOb_cons (Rely.ob_plain rfl (fun ac ρ hc hg hf w hC hold dep K Q hK => ?_)) ?_
      · have e32 := (dep 6 (by decide) (by decide)).2.2.2 (.inl rfl)
        refine Rely.upon_assign _ rfl ?_
        exact hK _ _ hC (hGr _) ⟨trivial, (fun h => by cases h), (fun h => by cases h), fun _ => e32⟩
      exact Rely.allOb_nil
    intro vs w4 hb4 hall
    obtain ⟨la, ln, lc, xs0, e9, own9, cel9⟩ := (Rely.allR_at hall 7 (by decide)).2.2.2 (.inr rfl)
    replace e9 : vs 7 = .slice la ln lc := e9
    clear hall hcA0 hcB0 hGr
    simp only [Rely.putAll, Act.put, Nat.reduceAdd, e9, List.setIfInBounds_toArray, List.set_cons_succ, List.set_cons_zero]
    generalize vs 0 = v0, vs 1 = v1, vs 2 = v2, vs 3 = v3, vs 4 = v4, vs 5 = v5, vs 6 = v6
    clear e9 vs
    have hbW4 : Below w.heap.size w w4 := HBW.out.trans (hb4.mono HBW.out.size)
    have qa4 : Duo w4 B 24 (.int .i64 da) (.slice a1 n1 c1) := QA'.out.stp hb4
    have qb4 : Duo w4 (B + 1) 24 (.int .i64 db) (.slice a2 n2 c2) := QB'.out.stp hb4
    have HBW4 := Lib.hid hbW4; have HB4 := Lib.hid hb4; have OWN9 := Lib.hid own9; have CEL9 := Lib.hid cel9; have QA4 := Lib.hid qa4; have QB4 := Lib.hid qb4
    have x0 := qa4.cell0; have x1 := qa4.cell1; have xl := qa4.lt; have y0 := qb4.cell0; have y1 := qb4.cell1; have yl := qb4.lt
    clear hbW4 hb4 own9 cel9 qa4 qb4
    go_wp2_with fail
    clear x0 x1 xl y0 y1 yl
    obtain ⟨wo, rfl⟩ : ∃ wo : World, wo = wr := ⟨_, rfl⟩
    go_loopw [9, 10, 11, 36] (fun l _ _ i wr => ∃ (k : Nat) (us : List Value), i = .int .i64 k ∧ k ≤ n2 ∧ wr.ownsRow wo.heap.size 45 3 l (stK da xs db ys k).length us ∧ Cells wo.heap.size l.ownBlock wr us (stK da xs db ys k) ∧ Below wo.heap.size wo wr ∧ wo.heap.size ≤ wr.heap.size) (fun _ _ _ i _ => n2 - (intOf i).toNat)
    case atStart => exact ⟨0, xs0, rfl, Nat.zero_le _, OWN9.out, CEL9.out, HB4.out, HB4.out.size⟩
    case round =>
      obtain ⟨k, us, rfl, hk, ho, hc, hbw, hn⟩ := hrel
      have k0 : (0 : Int) ≤ (k : Int) := by omega
      have e1 : IntKind.i64.wrap ((k : Int) + 1) = (k : Int) + 1 := IntWalk.i64_in _ (by have := HN2.out; omega)
      obtain ⟨za, zn, zc, rfl⟩ := owns_slice ho
      have qa : Duo wr B 24 (.int .i64 da) (.slice a1 n1 c1) := QA'.out.stp hbw
      have HO := Lib.hid ho; have HCe := Lib.hid hc; have HBw := Lib.hid hbw; have HN := Lib.hid hn
      by_cases hlt : k < n2
      · obtain ⟨_, _, e', _, hcm, _, h5⟩ := S2'.out.below hbw
        rw [HN2.out] at e'
        cases e'
        obtain ⟨b, off, rfl, hbl, hcc⟩ := h5 (by rintro rfl; have := HN2.out; simp at this; omega)
        obtain ⟨vb, rb, z0, z1, z2, z3⟩ := hcc k (by rw [HN2.out]; exact hlt)
        have hys := stK_succ (da := da) (xs := xs) (db := db) (ys := ys) (k := k) (by rw [HN2.out]; exact hlt)
        obtain ⟨s, hs⟩ : ∃ s, ys[k]?.getD Cm.nil = s := ⟨_, rfl⟩
        rw [hs] at rb z0 z1 z2 hys
        have hshort : s.b.length ≤ 1024 := by
          have := Cm.good_short GB.out s (by rw [← hs, List.getElem?_eq_getElem (by rw [HN2.out]; exact hlt)]; exact List.getElem_mem _)
          omega
        have h16 := GB.out.1
        rw [HN2.out] at h16
        have hln : (stK da xs db ys k).length ≤ 18 := by rw [stK_len (by rw [HN2.out]; omega)]; omega
        have HLN := Lib.hid hln
        clear hln
        have k1 : (k : Int) < (n2 : Int) := by omega
        obtain ⟨av, cv, rfl⟩ := rb.shape s.b.length rfl
        obtain ⟨nb, hnb⟩ : ∃ nb, s.b.length = nb := ⟨_, rfl⟩
        obtain ⟨m0, hm0⟩ : ∃ m, s.bits = m := ⟨_, rfl⟩
        obtain ⟨m1, hm1⟩ : ∃ m, s.hashes = m := ⟨_, rfl⟩
        obtain ⟨m2, hm2⟩ : ∃ m, s.salt = m := ⟨_, rfl⟩
        rw [hnb] at rb z3
        rw [hm0] at z0; rw [hm1] at z1; rw [hm2] at z2
        have qG := Quad.new wr 41 (.int .i64 m0) (.int .i64 m1) (.int .i64 m2) (.slice av nb cv)
        have rV := rb.alloc (.cells #[.int .i64 m0, .int .i64 m1, .int .i64 m2, .slice av nb cv] 41)
        have hb1 : Below wr.heap.size wr (wr.alloc (.cells #[.int .i64 m0, .int .i64 m1, .int .i64 m2, .slice av nb cv] 41)) := (Below.refl _ wr).alloc (Nat.le_refl _) _
        have qA : Duo (wr.alloc (.cells #[.int .i64 m0, .int .i64 m1, .int .i64 m2, .slice av nb cv] 41)) B 24 (.int .i64 da) (.slice a1 n1 c1) := qa.alloc _
        have sA := (S1'.out.below hbw).below hb1
        obtain ⟨V, hV⟩ : ∃ V, wr.alloc (.cells #[.int .i64 m0, .int .i64 m1, .int .i64 m2, .slice av nb cv] 41) = V := ⟨_, rfl⟩
        obtain ⟨G, hG⟩ : ∃ G, wr.heap.size = G := ⟨_, rfl⟩
        rw [hV] at qG rV hb1 qA sA
        rw [hG] at qG hb1
        have x0 := qA.cell0; have x1 := qA.cell1; have xl := qA.lt
        have w0 := qa.cell0; have w1 := qa.cell1; have wl := qa.lt
        have g0 := qG.cell0; have g1 := qG.cell1; have g2 := qG.cell2; have g3 := qG.cell3; have gl := qG.lt
        have HV := Lib.hid hV; have HG := Lib.hid hG; have RV := Lib.hid rV; have HB1 := Lib.hid hb1; have SA := Lib.hid sA; have HYs := Lib.hid hys; have HNb := Lib.hid hnb; have HSh := Lib.hid hshort
        clear hV hG rV hb1 sA hys hnb hshort hcc h5 rb qa qA qG ho hc hbw hn hs hm0 hm1 hm2
        go_upto_region 12 with fail
        rw [HV.out, HG.out]
        by_cases hk1 : k < n1
        · have k2 : (k : Int) < (n1 : Int) := by omega
          obtain ⟨_, _, e', _, _, _, g6⟩ := SA.out
          rw [HN1.out] at e'
          cases e'
          obtain ⟨bb, off', rfl, hbl', hc'⟩ := g6 (by rintro rfl; have := HN1.out; simp at this; omega)
          obtain ⟨ub, ru, _, _, _, q3⟩ := hc' k (by rw [HN1.out]; exact hk1)
          obtain ⟨D, hD⟩ : ∃ D, decide ((xs[k]?.getD Cm.nil).b = s.b) = D := ⟨_, rfl⟩
          have hEq : ∀ q : Nat, Calls Tryz.prog 40 #[ub, .slice av nb cv] (V.drewN q) fun e w' => e = .returned (.bool D) ∧ w' = V.drewN q := fun q => by
            rw [← hD]; exact BEqual_any _ _ _ _ _ ru RV.out
          have HDD := Lib.hid hD; have HK1 := Lib.hid hk1
          clear g6 hc' ru hD hk1
          cases D with
          | true =>
            go_quiet ((go_at_call 40; exact Calls.quiet_of_same (hEq _)))
            clear hEq q3 hbl'
            obtain ⟨U, hU⟩ : ∃ U, V.drewN nq = U := ⟨_, rfl⟩
            have hbU : Below G wr U := by rw [← hU]; exact bel_drewN HB1.out nq
            have rU : Row .u8 U (.slice av nb cv) s.b := by rw [← hU]; exact RV.out
            have g3U : U.cell? ⟨G, 3, none⟩ = some (.slice av nb cv) := by rw [← hU]; exact g3
            have hys2 : stK da xs db ys (k + 1) = stK da xs db ys k ++ [Cm.inT] := by rw [HYs.out, step_same (by rw [HN1.out]; exact HK1.out) (of_decide_eq_true HDD.out)]
            rw [hU]
            have HBU := Lib.hid hbU; have HYs2 := Lib.hid hys2
            have hOc := Bool_mk true U
            obtain ⟨j0, gi, gz0, gz1, gz2⟩ := info_parts info_item
            clear hU hbU rU hys2 x0 x1 xl w0 w1 wl g0 g1 g2 g3 gl
            go_wp2_with fail
            refine hOc.mono ?_; rintro e w4 ⟨⟨ao, co, rfl, oo⟩, hb4⟩
            have hV4 : Below wr.heap.size wr w4 := by rw [HG.out]; exact HBU.out.trans (hb4.mono (by rw [← HG.out]; exact HBU.out.size))
            have oo' := oo.mono (n := wr.heap.size) (by exact HBU.out.size)
            have ho4 := owns_keep HO.out hV4
            have HV4 := Lib.hid hV4; have OO := Lib.hid oo'; have HO4 := Lib.hid ho4
            clear hOc hb4 hV4 oo oo' ho4 g3U
            go_wp2_with (first
              | (at_builtin
                 refine wpList_append_own_at _ rfl (.tmp 57) (.tmp 59) 43 rfl wo.heap.size 45 j0 (.agg #[.int .i64 0, .slice none 0 0, .slice none 0 0]) 3 56 Tryz.underlying43 gi gz0 gz1 gz2 rfl (by decide) (.slice za zn zc) (stK da xs db ys k).length us rfl (HO4.out.alloc _) _ 1 1 [.int .i64 1, .slice ao 1 co, .slice none 0 0] rfl rfl (cells_new3 w4 (.int .i64 1) (.slice ao 1 co) (.slice none 0 0) 45) (by intro u hu; simp at hu; rcases hu with rfl | rfl | rfl <;> rfl) (by have := HLN.out; unfold maxLen; omega) (by have := HLN.out; omega) (by have := HN.out; have := HV4.out.size; simp; omega) ?_
                 intro v' w5 own5 hgrow _ hat
                 obtain ⟨a5, n5, c5, rfl⟩ := owns_slice own5)
              | fail)
            obtain ⟨t1, t2, t3, t4⟩ := row_step HO.out HCe.out HBw.out HN.out (HV4.out.alloc HV4.out.size _) (OO.out.kept (Keep.of_below ((Below.refl w4.heap.size w4).alloc (Nat.le_refl _) _) (Nat.le_refl _))) hgrow own5 hat
            go_roundw
            case rel => exact ⟨k + 1, _, by go_num, by omega, by rw [HYs2.out]; exact t1, by rw [HYs2.out]; exact t2, t3, t4⟩
            case measure => simp [intOf]; omega
          | false =>
            go_quiet ((go_at_call 40; exact Calls.quiet_of_same (hEq _)))
            clear hEq q3 hbl'
            obtain ⟨U, hU⟩ : ∃ U, V.drewN nq = U := ⟨_, rfl⟩
            have hbU : Below G wr U := by rw [← hU]; exact bel_drewN HB1.out nq
            have rU : Row .u8 U (.slice av nb cv) s.b := by rw [← hU]; exact RV.out
            have g3U : U.cell? ⟨G, 3, none⟩ = some (.slice av nb cv) := by rw [← hU]; exact g3
            have hys2 : stK da xs db ys (k + 1) = stK da xs db ys k ++ [Cm.inO s.b] := by rw [HYs.out, step_other (fun h => of_decide_eq_false HDD.out h.2)]
            rw [hU]
            have HBU := Lib.hid hbU; have HYs2 := Lib.hid hys2
            have hOc := Oct_mk _ s.b U rU (by have := HSh.out; omega)
            rw [HNb.out] at hOc
            obtain ⟨j0, gi, gz0, gz1, gz2⟩ := info_parts info_item
            clear hU hbU rU hys2 x0 x1 xl w0 w1 wl g0 g1 g2 g3 gl
            go_wp2_with fail
            refine hOc.mono ?_; rintro e w4 ⟨⟨ao, co, rfl, oo⟩, hb4⟩
            have hV4 : Below wr.heap.size wr w4 := by rw [HG.out]; exact HBU.out.trans (hb4.mono (by rw [← HG.out]; exact HBU.out.size))
            have oo' := oo.mono (n := wr.heap.size) (by exact HBU.out.size)
            have ho4 := owns_keep HO.out hV4
            have HV4 := Lib.hid hV4; have OO := Lib.hid oo'; have HO4 := Lib.hid ho4
            clear hOc hb4 hV4 oo oo' ho4 g3U
            go_wp2_with (first
              | (at_builtin
                 refine wpList_append_own_at _ rfl (.tmp 61) (.tmp 65) 43 rfl wo.heap.size 45 j0 (.agg #[.int .i64 0, .slice none 0 0, .slice none 0 0]) 3 56 Tryz.underlying43 gi gz0 gz1 gz2 rfl (by decide) (.slice za zn zc) (stK da xs db ys k).length us rfl (HO4.out.alloc _) _ 1 1 [.int .i64 4, .slice ao nb co, .slice none 0 0] rfl rfl (cells_new3 w4 (.int .i64 4) (.slice ao nb co) (.slice none 0 0) 45) (by intro u hu; simp at hu; rcases hu with rfl | rfl | rfl <;> rfl) (by have := HLN.out; unfold maxLen; omega) (by have := HLN.out; omega) (by have := HN.out; have := HV4.out.size; simp; omega) ?_
                 intro v' w5 own5 hgrow _ hat
                 obtain ⟨a5, n5, c5, rfl⟩ := owns_slice own5)
              | fail)
            obtain ⟨t1, t2, t3, t4⟩ := row_step HO.out HCe.out HBw.out HN.out (HV4.out.alloc HV4.out.size _) (OO.out.kept (Keep.of_below ((Below.refl w4.heap.size w4).alloc (Nat.le_refl _) _) (Nat.le_refl _))) hgrow own5 hat
            go_roundw
            case rel => exact ⟨k + 1, _, by go_num, by omega, by rw [HYs2.out]; exact t1, by rw [HYs2.out]; exact t2, t3, t4⟩
            case measure => simp [intOf]; omega
        · have k2 : decide (k < n1) = false := decide_eq_false hk1
          have HK1 := Lib.hid hk1
          clear hk1
          go_quiet (fail)
          obtain ⟨U, hU⟩ : ∃ U, V.drewN nq = U := ⟨_, rfl⟩
          have hbU : Below G wr U := by rw [← hU]; exact bel_drewN HB1.out nq
          have rU : Row .u8 U (.slice av nb cv) s.b := by rw [← hU]; exact RV.out
          have g3U : U.cell? ⟨G, 3, none⟩ = some (.slice av nb cv) := by rw [← hU]; exact g3
          have hys2 : stK da xs db ys (k + 1) = stK da xs db ys k ++ [Cm.inO s.b] := by rw [HYs.out, step_other (fun h => HK1.out (by have := h.1; rw [HN1.out] at this; exact this))]
          rw [hU]
          have HBU := Lib.hid hbU; have HYs2 := Lib.hid hys2
          have hOc := Oct_mk _ s.b U rU (by have := HSh.out; omega)
          rw [HNb.out] at hOc
          obtain ⟨j0, gi, gz0, gz1, gz2⟩ := info_parts info_item
          clear hU hbU rU hys2 x0 x1 xl w0 w1 wl g0 g1 g2 g3 gl
          go_wp2_with fail
          refine hOc.mono ?_; rintro e w4 ⟨⟨ao, co, rfl, oo⟩, hb4⟩
          have hV4 : Below wr.heap.size wr w4 := by rw [HG.out]; exact HBU.out.trans (hb4.mono (by rw [← HG.out]; exact HBU.out.size))
          have oo' := oo.mono (n := wr.heap.size) (by exact HBU.out.size)
          have ho4 := owns_keep HO.out hV4
          have HV4 := Lib.hid hV4; have OO := Lib.hid oo'; have HO4 := Lib.hid ho4
          clear hOc hb4 hV4 oo oo' ho4 g3U
          go_wp2_with (first
            | (at_builtin
               refine wpList_append_own_at _ rfl (.tmp 61) (.tmp 65) 43 rfl wo.heap.size 45 j0 (.agg #[.int .i64 0, .slice none 0 0, .slice none 0 0]) 3 56 Tryz.underlying43 gi gz0 gz1 gz2 rfl (by decide) (.slice za zn zc) (stK da xs db ys k).length us rfl (HO4.out.alloc _) _ 1 1 [.int .i64 4, .slice ao nb co, .slice none 0 0] rfl rfl (cells_new3 w4 (.int .i64 4) (.slice ao nb co) (.slice none 0 0) 45) (by intro u hu; simp at hu; rcases hu with rfl | rfl | rfl <;> rfl) (by have := HLN.out; unfold maxLen; omega) (by have := HLN.out; omega) (by have := HN.out; have := HV4.out.size; simp; omega) ?_
               intro v' w5 own5 hgrow _ hat
               obtain ⟨a5, n5, c5, rfl⟩ := owns_slice own5)
            | fail)
          obtain ⟨t1, t2, t3, t4⟩ := row_step HO.out HCe.out HBw.out HN.out (HV4.out.alloc HV4.out.size _) (OO.out.kept (Keep.of_below ((Below.refl w4.heap.size w4).alloc (Nat.le_refl _) _) (Nat.le_refl _))) hgrow own5 hat
          go_roundw
          case rel => exact ⟨k + 1, _, by go_num, by omega, by rw [HYs2.out]; exact t1, by rw [HYs2.out]; exact t2, t3, t4⟩
          case measure => simp [intOf]; omega
      · obtain rfl : k = n2 := by omega
        have hits : ItsV wr (.slice za zn zc) (stK da xs db ys ys.length) := by rw [HN2.out]; exact hc.its ho (Keep.refl _ _ _)
        have h16 := GB.out.1
        have hSq := Seq_mk _ _ _ hits (by rw [stK_len (Nat.le_refl _)]; omega)
        rw [stK_all] at hSq
        clear ho hc hits hbw hn qa
        go_wp2_with fail
        refine hSq.mono ?_; rintro e w5 ⟨⟨az, cz, rfl, ip⟩, hb5⟩
        have hb15 := HBw.out.trans (hb5.mono HBw.out.size)
        have hPu := Put_any (Cm.stepItem da xs db ys) (Nat.le_trans (Cm.step_wt GA.out.2.1 GB.out) (by decide)) _ _ w5 (KR.out.below hb15) ip
        have hby := ip.bytes (form_of_may (may_stepItem GA.out GB.out))
        have HB15 := Lib.hid hb15; have HBY := Lib.hid hby
        clear hSq hb5 hb15 ip hby
        go_wp2_with fail
        refine hPu.mono ?_; rintro e w6 ⟨hP, hb6⟩
        have hres := BytR.of_putted hP (may_stepItem GA.out GB.out) HBY.out
        have hz : Z = if Dm.len (Cm.stepItem da xs db ys) ≤ 8192 then .ok (Dm.bytes (Cm.stepItem da xs db ys)) else .error 2 := by rw [HZ.out]; simp
        rw [← hz] at hres
        have hB6 := HBW.out.trans ((HB15.out.trans (hb6.mono HB15.out.size)).mono HBW.out.size)
        have HB6 := Lib.hid hB6
        clear hz hPu hP hb6 hB6 HZ
        cases Z with
        | error cc =>
          obtain rfl : e = _ := hres
          go_wp2_with fail
          go_ret2
          exact ⟨rfl, HB6.out⟩
        | ok l =>
          obtain ⟨a, c, rfl, hr⟩ := hres
          have HRw := Lib.hid hr
          clear hr
          go_wp2_with fail
          go_ret2
          exact ⟨⟨a, c, rfl, HRw.out⟩, HB6.out⟩
end Go.Proofs.YtfdchdnkblmijaaGreatDoor
end
