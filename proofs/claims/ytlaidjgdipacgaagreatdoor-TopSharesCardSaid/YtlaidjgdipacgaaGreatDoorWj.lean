/-
  The texts Nb Nc Ne in one. (Merged by wip/lay12m.py.)
-/
import Derived.Test.YtlaidjgdipacgaaGreatDoorNa
import Derived.Test.YtlaidjgdipacgaaGreatDoorRf
import Derived.RegionIn
import Derived.LoopNIn
import Derived.BigRegionIn
import Derived.Stop.RegionWithIn
import Derived.Sort.QuietTacIn
import Derived.Sort.BigQuietIn
import Derived.Test.YtlaidjgdipacgaaGreatDoorKb

section
namespace Go.Proofs.YtlaidjgdipacgaaGreatDoor
open Go.RowKit Go.Shelf
attribute [local go_sem] Oper.semAt_some

def OneB (P : Nat) (k : Nat) : Prop := k = P
/-- The three boxes of a split. -/
structure SpBox (W : World) (P : Nat) (s : ByteArray) : Prop where
  s : Boxed W P 9 (.string s)
  sep : Boxed W (P + 1) 9 (.string ⟨#[46]⟩)
  save : Boxed W (P + 2) 3 (.int .i64 0)
theorem SpBox.below {W W' : World} {P n : Nat} {s : ByteArray} (h : SpBox W P s) (hn : P + 2 < n) (hb : Below n W W') : SpBox W' P s :=
  ⟨(hb.block P (by omega)).trans h.s, (hb.block (P + 1) (by omega)).trans h.sep, (hb.block (P + 2) (by omega)).trans h.save⟩
theorem SpBox.stp {W W' : World} {P : Nat} {s : ByteArray} (h : SpBox W P s) (hb : Below W.heap.size W W') : SpBox W' P s := h.below h.save.lt hb

set_option maxRecDepth 100000 in
set_option maxHeartbeats 2000000 in
theorem split_one (N : Nat) (hn : 1 ≤ N) (l P n0 : Nat) (_hn0 : P + 2 < n0) (s : ByteArray) (hix : Lib.indexByte s.data.toList 46 = -1) (J Jx : List ByteArray → World → Prop)
    (hY : ∀ pre (x : ByteArray) V0 V, J pre V0 → Below V0.heap.size V0 V → ([s] : List ByteArray)[pre.length]? = some x → YieldAt Fence.wide (N - 1) Tryz.prog l #[.string x] V fun e V' =>
      (e = .returned (.bool true) ∧ J (pre ++ [x]) V' ∧ Below n0 V V') ∨ (e = .returned (.bool false) ∧ Jx (pre ++ [x]) V'))
    (W : World) (hb : SpBox W P s) (h0 : J [] W) :
    CallsIn Fence.wide N Tryz.prog 162 #[.func (.yield l) #[] #[], .pointer (some ⟨P + 1, 0, none⟩), .pointer (some ⟨P, 0, none⟩), .pointer (some ⟨P + 2, 0, none⟩)] W fun e W' => (∃ v, e = .returned v) ∧
      ((∃ xs : List ByteArray, xs = [s] ∧ J xs W') ∨ (∃ pre : List ByteArray, True ∧ Jx pre W')) := by
  refine callsIn_of_wp Tryz.func162 rfl trivial ?_ rfl
  simp only [Tryz.ntmps162, List.size_toArray, List.length_cons, List.length_nil, Nat.reduceAdd, Nat.reduceSub, Array.replicate_succ, Array.replicate_zero, List.push_toArray, List.append_toArray, List.nil_append, List.cons_append]
  have c0 := hb.s.cell; have c1 := hb.sep.cell; have c2 := hb.save.cell
  have hI := fun W' => Sh.strings_Index_one s 46 W'
  rw [hix] at hI
  obtain ⟨fn, tmps, assign, body, hy, hR⟩ := hY [] s W W h0 (Below.refl _ _) rfl
  have hR' := hR.mono (R' := fun e W' => ∃ b, e = .returned (.bool b) ∧ ((b = true ∧ J ([] ++ [s]) W') ∨ (b = false ∧ Jx ([] ++ [s]) W'))) (fun e W' h => by
    rcases h with ⟨rfl, h, -⟩ | ⟨rfl, h⟩
    · exact ⟨true, rfl, .inl ⟨rfl, h⟩⟩
    · exact ⟨false, rfl, .inr ⟨rfl, h⟩⟩)
  clear hR hY
  gi_wp2_with fail
  refine wpIn_loop_rounds 1 ?_
  rw [roundsIn_succ]
  gi_wp2_with (first
    | (refine ⟨trivial, ?_⟩; gi_at_call 142; refine (callsIn_wide.2 (hI _)).mono ?_; rintro e w1 ⟨rfl, rfl⟩)
    | (refine hR'.mono ?_; rintro e W5 ⟨b, rfl, hc⟩)
    | fail)
  go_end0
  rcases hc with ⟨rfl, h⟩ | ⟨rfl, h⟩
  · exact ⟨⟨_, rfl⟩, .inl ⟨[s], rfl, h⟩⟩
  · exact ⟨⟨_, rfl⟩, .inr ⟨[s], trivial, h⟩⟩

set_option maxRecDepth 100000 in
set_option maxHeartbeats 2000000 in
theorem split_two (N : Nat) (hn : 1 ≤ N) (l P n0 : Nat) (hn0 : P + 2 < n0) (x a : UInt8) (hix : Lib.indexByte [x, 46, a] 46 = 1) (hia : Lib.indexByte [a] 46 = -1) (J Jx : List ByteArray → World → Prop)
    (hJ : ∀ pre W W', J pre W → Only (OneB P) W W' → J pre W')
    (hY : ∀ pre (z : ByteArray) V0 V, J pre V0 → Below V0.heap.size V0 V → ([⟨#[x]⟩, ⟨#[a]⟩] : List ByteArray)[pre.length]? = some z → YieldAt Fence.wide (N - 1) Tryz.prog l #[.string z] V fun e V' =>
      (e = .returned (.bool true) ∧ J (pre ++ [z]) V' ∧ Below n0 V V') ∨ (e = .returned (.bool false) ∧ Jx (pre ++ [z]) V'))
    (W : World) (hb : SpBox W P ⟨#[x, 46, a]⟩) (h0 : J [] W) :
    CallsIn Fence.wide N Tryz.prog 162 #[.func (.yield l) #[] #[], .pointer (some ⟨P + 1, 0, none⟩), .pointer (some ⟨P, 0, none⟩), .pointer (some ⟨P + 2, 0, none⟩)] W fun e W' => (∃ v, e = .returned v) ∧
      ((∃ xs : List ByteArray, xs = [⟨#[x]⟩, ⟨#[a]⟩] ∧ J xs W') ∨ (∃ pre : List ByteArray, True ∧ Jx pre W')) := by
  refine callsIn_of_wp Tryz.func162 rfl trivial ?_ rfl
  simp only [Tryz.ntmps162, List.size_toArray, List.length_cons, List.length_nil, Nat.reduceAdd, Nat.reduceSub, Array.replicate_succ, Array.replicate_zero, List.push_toArray, List.append_toArray, List.nil_append, List.cons_append]
  have c0 := hb.s.cell; have c1 := hb.sep.cell; have c2 := hb.save.cell
  have hI := fun W' => Sh.strings_Index_one ⟨#[x, 46, a]⟩ 46 W'
  have hI2 := fun W' => Sh.strings_Index_one ⟨#[a]⟩ 46 W'
  rw [show Lib.indexByte (⟨#[x, 46, a]⟩ : ByteArray).data.toList 46 = 1 from hix] at hI
  rw [show Lib.indexByte (⟨#[a]⟩ : ByteArray).data.toList 46 = -1 from hia] at hI2
  obtain ⟨fn, tmps, assign, body, hy, hR⟩ := hY [] (ByteArray.extract ⟨#[x, 46, a]⟩ 0 1) W W h0 (Below.refl _ _) rfl
  have HB := Lib.hid hb
  have hR' := hR.mono (R' := fun e W' => ∃ b, e = .returned (.bool b) ∧ ((b = true ∧ J [⟨#[x]⟩] W' ∧ Below n0 W W') ∨ (b = false ∧ Jx [⟨#[x]⟩] W'))) (fun e W' h => by
    rcases h with ⟨rfl, h, hk⟩ | ⟨rfl, h⟩
    · exact ⟨true, rfl, .inl ⟨rfl, h, hk⟩⟩
    · exact ⟨false, rfl, .inr ⟨rfl, h⟩⟩)
  clear hR
  gi_wp2_with fail
  refine wpIn_loop_rounds 2 ?_
  rw [roundsIn_succ]
  have fr := hb.s.frozen; have lP := hb.s.lt
  gi_wp2_with (first
    | (refine ⟨trivial, ?_⟩; gi_at_call 142; refine (callsIn_wide.2 (hI _)).mono ?_; clear hI; rintro e w1 ⟨rfl, rfl⟩)
    | (refine hR'.mono ?_; rintro e W5 ⟨b, rfl, hc⟩; rcases hc with ⟨rfl, hJ5, hk5⟩ | ⟨rfl, hJx⟩
       have B5 := HB.out.below hn0 hk5
       have d0 := B5.s.cell; have d1 := B5.sep.cell; have d2 := B5.save.cell; have fr5 := B5.s.frozen; have l5 := B5.s.lt
       have J6 : J [⟨#[x]⟩] (W5.setCell ⟨P, 0, none⟩ (.string (ByteArray.extract ⟨#[x, 46, a]⟩ 2 3))) := hJ _ _ _ hJ5 ((Only.refl (OneB P) W5).setCell (p := ⟨P, 0, none⟩) (.inl rfl) _))
    | fail)
  · obtain ⟨fn2, tmps2, assign2, body2, hy2, hR2⟩ := hY [⟨#[x]⟩] (ByteArray.extract ⟨#[x, 46, a]⟩ 2 3) _ _ J6 (Below.refl _ _) rfl
    have hR3 := hR2.mono (R' := fun e W' => ∃ b, e = .returned (.bool b) ∧ ((b = true ∧ J [⟨#[x]⟩, ⟨#[a]⟩] W') ∨ (b = false ∧ Jx [⟨#[x]⟩, ⟨#[a]⟩] W'))) (fun e W' h => by
      rcases h with ⟨rfl, h, -⟩ | ⟨rfl, h⟩
      · exact ⟨true, rfl, .inl ⟨rfl, h⟩⟩
      · exact ⟨false, rfl, .inr ⟨rfl, h⟩⟩)
    have d0' := (B5.s.set (.string (ByteArray.extract ⟨#[x, 46, a]⟩ 2 3))).cell
    rw [show (⟨#[a]⟩ : ByteArray) = ByteArray.extract ⟨#[x, 46, a]⟩ 2 3 from rfl] at hI2
    clear hR2 hR' hy hY
    rw [roundsIn_succ]
    gi_wp2_with (first
      | (refine ⟨trivial, ?_⟩; gi_at_call 142; refine (callsIn_wide.2 (hI2 _)).mono ?_; clear hI2; rintro e w1 ⟨rfl, rfl⟩)
      | (refine hR3.mono ?_; rintro e W6 ⟨b, rfl, hc⟩)
      | fail)
    go_end0
    rcases hc with ⟨rfl, h⟩ | ⟨rfl, h⟩
    · exact ⟨⟨_, rfl⟩, .inl ⟨[⟨#[x]⟩, ⟨#[a]⟩], rfl, h⟩⟩
    · exact ⟨⟨_, rfl⟩, .inr ⟨[⟨#[x]⟩, ⟨#[a]⟩], trivial, h⟩⟩
  · refine bodyPost_ret (results_none rfl _ _ _) rfl ?_
    exact ⟨⟨_, rfl⟩, .inr ⟨[⟨#[x]⟩], trivial, hJx⟩⟩
end Go.Proofs.YtlaidjgdipacgaaGreatDoor
end

section
namespace Go.Proofs.YtlaidjgdipacgaaGreatDoor
open Go.RowKit Go.Shelf
attribute [local go_sem] Oper.semAt_some

theorem keepsFrom_below {B : Nat} {V W : World} (h : Below V.heap.size V W) : KeepsFrom B V W := ⟨h.size, fun k _ _ hk _ => (h.block k (Array.getElem?_eq_some_iff.1 hk).1).trans hk⟩
theorem results_box1 {P : Program} {fn : Func} {p : Tmp} {t1 : TypeId} (h : fn.results = #[.cell p t1]) (tmps : Array Value) (w : World) (g1 : Nat) (v1 : Value) (e1 : TypeId) (d1 : TypeDesc)
    (hp : tmps.getD p undef = .pointer (some ⟨g1, 0, none⟩)) (hg1 : Boxed w g1 e1 v1)
    (hd1 : (match d1 with | .struct _ | .array _ _ => true | _ => false) = false) (hu1 : P.underlying t1 = some d1) :
    (results fn tmps).run P w = .ok v1 w := by
  have hp' : tmps[p]?.getD undef = .pointer (some ⟨g1, 0, none⟩) := by simpa using hp
  have one : (loadVar t1 ⟨g1, 0, none⟩).run P w = .ok v1 w := by
    have hagg : (isAgg t1).run P w = .ok false w := by
      unfold isAgg
      rw [Sem.run_bind, run_underlying hu1 w]
      cases d1 <;> simp_all
    have hc := hg1.cell
    simp [loadVar, Sem.run_bind, hagg]
    simp [hc]
  simp [results, h, hp', asAddr, one]

theorem splitSeq_any (s : ByteArray) (w : World) : Calls Tryz.prog 115 #[.string s, .string ⟨#[46]⟩] w fun e w' => e = .returned (.func (.func 162) #[] #[.pointer (some ⟨w.heap.size + 1, 0, none⟩), .pointer (some ⟨w.heap.size, 0, none⟩), .pointer (some ⟨w.heap.size + 2, 0, none⟩)]) ∧
    w' = ((w.alloc (.cells #[.string s] 9)).alloc (.cells #[.string ⟨#[46]⟩] 9)).alloc (.cells #[.int .i64 0] 3) := by
  have S : ∀ w : World, Calls Tryz.prog 143 #[.string s, .string ⟨#[46]⟩, .int .i64 0] w fun e w' => e = .returned (.func (.func 162) #[] #[.pointer (some ⟨w.heap.size + 1, 0, none⟩), .pointer (some ⟨w.heap.size, 0, none⟩), .pointer (some ⟨w.heap.size + 2, 0, none⟩)]) ∧
      w' = ((w.alloc (.cells #[.string s] 9)).alloc (.cells #[.string ⟨#[46]⟩] 9)).alloc (.cells #[.int .i64 0] 3) := fun w => by
    go_enter Tryz.func143, Tryz.ntmps143
    go_wp2
    go_ret
    exact ⟨rfl, rfl⟩
  go_enter Tryz.func115, Tryz.ntmps115
  go_wp2_with fail
  refine (S _).mono ?_; rintro e w1 ⟨rfl, rfl⟩
  go_wp2_with fail
  go_ret
  exact ⟨rfl, rfl⟩

/-- What the iterator of a split tells. -/
def SpTold (s : ByteArray) (ps : List ByteArray) : Prop := ∀ (w0 : World) (P : Nat), SpBox w0 P s →
  SeqTold Fence.wide 5 Tryz.prog 162 #[.pointer (some ⟨P + 1, 0, none⟩), .pointer (some ⟨P, 0, none⟩), .pointer (some ⟨P + 2, 0, none⟩)] (fun x : ByteArray => #[Value.string x]) (OneB P) (fun pre x _ _ => ps[pre.length]? = some x) (fun _ V V' => Below w0.heap.size V V')
    (fun xs => xs = ps) (fun _ => True) w0
theorem told_one (s : ByteArray) (hix : Lib.indexByte s.data.toList 46 = -1) : SpTold s [s] := fun w0 P hb l J Jx X hX _hJ _ hY h0 =>
  split_one 5 (by omega) l P w0.heap.size hb.save.lt s hix J Jx hY X (hb.below hb.save.lt hX) h0
theorem told_two (x a : UInt8) (hix : Lib.indexByte [x, 46, a] 46 = 1) (hia : Lib.indexByte [a] 46 = -1) : SpTold ⟨#[x, 46, a]⟩ [⟨#[x]⟩, ⟨#[a]⟩] := fun w0 P hb l J Jx X hX hJ _ hY h0 =>
  split_two 5 (by omega) l P w0.heap.size hb.save.lt x a hix hia J Jx hJ hY X (hb.below hb.save.lt hX) h0

set_option maxRecDepth 100000 in
set_option maxHeartbeats 4000000 in
theorem name_any (s : ByteArray) (ps : List ByteArray) (lab : ByteArray → Bool) (nl nb cn : Int) (w : World) (hsz : (s.size : Int) ≤ nb) (hcn : Lib.countByte s.data.toList 46 = cn) (hcl : cn < nl)
    (hlab : ∀ x ∈ ps, ∀ W, Calls Tryz.prog 116 #[.string x] W fun e w' => e = .returned (.bool (lab x)) ∧ Below W.heap.size W w') (hsp : SpTold s ps) :
    Calls Tryz.prog 85 #[.string s, .int .i64 nl, .int .i64 nb] w fun e w' => e = .returned (.bool (ps.all lab)) ∧ Below w.heap.size w w' := by
  have hC := fun W => Sh.strings_Count_one s 46 W
  rw [hcn] at hC
  have b1 : ¬ nb < (s.size : Int) := by omega
  have b2 : ¬ nl ≤ cn := by omega
  have q0 := Boxed.new w 4 (.bool false)
  obtain ⟨B, hB⟩ : ∃ B, w.heap.size = B := ⟨_, rfl⟩
  obtain ⟨W0, hW0⟩ : ∃ W, w.alloc (.cells #[.bool false] 4) = W := ⟨_, rfl⟩
  have hb0 : Below w.heap.size w W0 := by rw [← hW0]; exact (Below.refl _ _).alloc (Nat.le_refl _) _
  have sz0 : W0.heap.size = B + 1 := by rw [← hW0]; simp [hB]
  rw [hW0, hB] at q0
  have HW := Lib.hid hW0; have HB := Lib.hid hB; have HB0 := Lib.hid hb0; have Q0 := Lib.hid q0; have SZ0 := Lib.hid sz0; have HLab := Lib.hid hlab; have HSp := Lib.hid hsp
  clear hsz hcn hcl hlab hsp hW0 hB hb0 q0 sz0
  refine (callsIn_wide (n := 6)).1 ?_
  refine callsIn_of_wp_marks Tryz.func85 rfl trivial ?_ rfl
  simp only [Tryz.ntmps85, List.size_toArray, List.length_cons, List.length_nil, Nat.reduceAdd, Nat.reduceSub, Array.replicate_succ, Array.replicate_zero, List.push_toArray, List.append_toArray, List.nil_append, List.cons_append]
  gi_wp2_with (first
    | (refine ⟨trivial, ?_⟩; gi_at_call 114; refine (callsIn_wide.2 (hC _)).mono ?_; clear hC; rintro e w1 ⟨rfl, rfl⟩)
    | fail)
  rw [show w.alloc (.cells #[.bool false] 4) = W0 from HW.out, HB.out]
  refine ⟨trivial, ?_⟩
  refine (callsIn_wide.2 (splitSeq_any s W0)).mono ?_
  rintro e w1 ⟨rfl, hw1⟩
  have p1 := ((Boxed.new W0 9 (.string s)).alloc (.cells #[.string ⟨#[46]⟩] 9)).alloc (.cells #[.int .i64 0] 3)
  have p2 := (Boxed.new (W0.alloc (.cells #[.string s] 9)) 9 (.string ⟨#[46]⟩)).alloc (.cells #[.int .i64 0] 3)
  have p3 := Boxed.new ((W0.alloc (.cells #[.string s] 9)).alloc (.cells #[.string ⟨#[46]⟩] 9)) 3 (.int .i64 0)
  have hVw : Below W0.heap.size W0 w1 := by rw [hw1]; exact (((Below.refl _ _).alloc (Nat.le_refl _) _).alloc (by simp) _).alloc (by simp; omega) _
  have hsz1 : w1.heap.size = B + 4 := by rw [hw1]; simp [SZ0.out]
  simp only [World.size_alloc, SZ0.out] at p1 p2 p3
  rw [← hw1] at p1 p2 p3
  have q1 : Boxed w1 B 4 (.bool false) := (hVw.block B (by rw [SZ0.out]; omega)).trans Q0.out
  have hb1 : Below w.heap.size w w1 := HB0.out.trans (hVw.mono HB0.out.size)
  have hsq := HSp.out w1 (B + 1) ⟨p1, p2, p3⟩
  have Hsq := Lib.hid hsq; have HB1 := Lib.hid hb1; have Q1 := Lib.hid q1; have SZ1 := Lib.hid hsz1
  rw [SZ0.out]
  clear hsq hb1 q1 hVw p1 p2 p3 hw1 HW Q0
  have hwB := HB.out
  have grw : ∀ (A X : World) (row : Option Nat), A.grownBy X row → (∀ r, row = some r → w1.heap.size ≤ r ∧ ∃ o : Obj, A.heap[r]? = some o ∧ o.isCells = false) → Boxed A B 4 (.bool false) → Boxed X B 4 (.bool false) := fun A X row hg hr h => h.kept hg (fun e => by have := (hr _ e.symm).1; have := SZ1.out; omega)
  have grb : ∀ (A X : World) (row : Option Nat), A.grownBy X row → (∀ r, row = some r → w1.heap.size ≤ r ∧ ∃ o : Obj, A.heap[r]? = some o ∧ o.isCells = false) → Below w.heap.size w A → Below w.heap.size w X := fun A X row hg hr h => h.grown hg h.size (fun k e => by have := (hr _ e).1; have := SZ1.out; omega)
  have Grw := Lib.hid grw; have Grb := Lib.hid grb
  clear grw grb
  gi_wp2_with fail
  refine wpIn_told rfl (by omega) (gf := 162) (lb := #[.pointer (some ⟨B + 1 + 1, 0, none⟩), .pointer (some ⟨B + 1, 0, none⟩), .pointer (some ⟨B + 1 + 2, 0, none⟩)]) rfl trivial (enters_of Tryz.func162 (by kernel_rfl) rfl)
    Hsq.out ?kb (Below.refl _ _) (fun _ => rfl) (fun pre X => Boxed X B 4 (.bool false) ∧ Below w.heap.size w X ∧ ∀ x ∈ pre, lab x = true) (fun c _ X => c = .ret ∧ ps.all lab = false ∧ Boxed X B 4 (.bool false) ∧ Below w.heap.size w X) (fun k hk => by have := SZ1.out; unfold OneB at hk; omega) ?hi ?hix ?hib ?hixb ⟨Q1.out, HB1.out, by simp⟩ ?round ?done ?stop
  case kb => exact fun xs A X l o o' h hl ho hc hw => h.trans (belowK_b (w := w1) (Nat.le_refl _) X l o o' hl ho hc hw)
  case hi => exact fun pre A X row h hg hr => ⟨Grw.out A X row hg hr h.1, Grb.out A X row hg hr h.2.1, h.2.2⟩
  case hix => exact fun c pre A X row h hg hr => ⟨h.1, h.2.1, Grw.out A X row hg hr h.2.2.1, Grb.out A X row hg hr h.2.2.2⟩
  case hib => exact fun pre A X h ho => ⟨ho.boxed h.1 (by unfold OneB; omega), h.2.1.trans (ho.to_below h.2.1.size (fun k hk => by unfold OneB; omega)), h.2.2⟩
  case hixb => exact fun c pre A X h ho => ⟨h.1, h.2.1, ho.boxed h.2.2.1 (by unfold OneB; omega), h.2.2.2.trans (ho.to_below h.2.2.2.size (fun k hk => by unfold OneB; omega))⟩
  case round =>
    rintro l pre x W2 X hl ⟨hq, hbX, hal⟩ hbw hR ⟨r, hr⟩
    dsimp only at hR ⊢
    have hmem : x ∈ ps := List.mem_of_getElem? hR
    have hL := fun W => HLab.out x hmem W
    have hbX2 := hbX.trans (hbw.mono hbX.size)
    have hqX := (hbw.block B hq.lt).trans hq
    obtain ⟨bx, hbx⟩ : ∃ b, lab x = b := ⟨_, rfl⟩
    rw [hbx] at hL
    have HQX := Lib.hid hqX; have HBX := Lib.hid hbX2; have HAL := Lib.hid hal; have HBx := Lib.hid hbx; have HR := Lib.hid hr; have HM := Lib.hid hmem
    clear hqX hbX2 hal hbx hr hq hbX hR hmem
    gi_wp2
    refine ⟨KeepsFrom.refl _ _, fun r' => ?_⟩
    have hr := HR.out
    have hlX := (Array.getElem?_eq_some_iff.1 hr).1
    have pb : Below w1.heap.size X (X.putObj l (.loop r')) := belowK_b (w := w1) (Nat.le_refl _) X l _ _ hl hr rfl rfl
    have q2 : Boxed (X.putObj l (.loop r')) B 4 (.bool false) := (pb.block B (by have := SZ1.out; omega)).trans HQX.out
    have bw2 : Below w.heap.size w (X.putObj l (.loop r')) := HBX.out.trans ((pb.mono (by have := SZ1.out; omega)))
    obtain ⟨V2, hV2⟩ : ∃ V, X.putObj l (.loop r') = V := ⟨_, rfl⟩
    rw [hV2] at pb q2 bw2 ⊢
    have PB := Lib.hid pb; have Q2 := Lib.hid q2; have BW2 := Lib.hid bw2
    clear pb q2 bw2 hV2 hr
    cases bx with
    | true =>
      gi_wp2_with (first
        | (refine ⟨trivial, ?_⟩; gi_at_call 116; refine (CallsIn.inRound l (callsIn_wide.2 (hL _))).mono ?_; clear hL; rintro e w5 ⟨rfl, hb5⟩)
        | fail)
      refine ⟨keepsFrom_below hb5, PB.out.trans (hb5.mono (Nat.le_trans ?_ PB.out.size)), (hb5.block B Q2.out.lt).trans Q2.out, BW2.out.trans (hb5.mono BW2.out.size), ?_⟩
      · omega
      · intro y hy
        rcases List.mem_append.1 hy with h | h
        · exact HAL.out y h
        · obtain rfl := List.mem_singleton.1 h
          exact HBx.out
    | false =>
      gi_wp2_with (first
        | (refine ⟨trivial, ?_⟩; gi_at_call 116; refine (CallsIn.inRound l (callsIn_wide.2 (hL _))).mono ?_; clear hL; rintro e w5 ⟨rfl, hb5⟩; have q5 : Boxed w5 B 4 (.bool false) := (hb5.block B Q2.out.lt).trans Q2.out; have c5 := q5.cell; have f5 := q5.frozen; have l5 := q5.lt)
        | fail)
      have hps : ps.all lab = false := by
        rw [List.all_eq_false]
        exact ⟨x, HM.out, by rw [HBx.out]; simp⟩
      refine ⟨(keepsFrom_below hb5).trans ((KeepsOthers.setCell _ _ _).from _), rfl, hps, q5.set _, ?_⟩
      exact (BW2.out.trans (hb5.mono BW2.out.size)).setCell (p := ⟨B, 0, none⟩) (by show w.heap.size ≤ B; omega) _
  case done =>
    rintro D xs X hD rfl ⟨hq, hbX, hal⟩ hK
    have hall : xs.all lab = true := by rw [List.all_eq_true]; exact hal
    have HA := Lib.hid hall
    have c5 := hq.cell; have f5 := hq.frozen; have l5 := hq.lt
    have HQ := Lib.hid hq; have HBX := Lib.hid hbX; have HK := Lib.hid hK
    clear hq hbX hal hK hall
    gi_wp2
    have hDB : D ≠ B := by have := SZ1.out; omega
    have hK2 : (X.setCell ⟨B, 0, none⟩ (.bool true)).heap[D]? = some (.deferred (some [])) := (Below.heap_setCell X ⟨B, 0, none⟩ (.bool true) D hDB).trans HK.out
    have hq2 : ∀ o, Boxed ((X.setCell ⟨B, 0, none⟩ (.bool true)).putObj D o) B 4 (.bool true) := fun o => (World.putObj_heap_other (fun e => hDB e.symm)).trans (HQ.out.set (.bool true))
    have hb2 : Below w.heap.size w (X.setCell ⟨B, 0, none⟩ (.bool true)) := HBX.out.setCell (p := ⟨B, 0, none⟩) (by show w.heap.size ≤ B; omega) _
    refine ⟨by simp, .inl ⟨_, _, rfl, run_takeDeferred hK2, ?_⟩⟩
    exact ⟨_, results_box1 (p := 6) rfl _ _ B _ _ _ rfl (hq2 _) rfl Tryz.underlying4, by rw [HA.out], hb2.trans (belowK_b (w := w1) (by have := SZ1.out; omega) _ D _ _ hD hK2 rfl rfl)⟩
  case stop =>
    rintro D c pre X hD - ⟨rfl, hN, hq, hbX⟩ hK
    have HN := Lib.hid hN
    have HQ := Lib.hid hq; have HBX := Lib.hid hbX; have HK := Lib.hid hK
    clear hq hbX hK hN
    gi_wp2
    have hDB : D ≠ B := by have := SZ1.out; omega
    have hq2 : ∀ o, Boxed (X.putObj D o) B 4 (.bool false) := fun o => (World.putObj_heap_other (fun e => hDB e.symm)).trans HQ.out
    refine ⟨by simp, .inl ⟨_, _, rfl, run_takeDeferred HK.out, ?_⟩⟩
    exact ⟨_, results_box1 (p := 6) rfl _ _ B _ _ _ rfl (hq2 _) rfl Tryz.underlying4, by rw [HN.out], HBX.out.trans (belowK_b (w := w1) (by have := SZ1.out; omega) _ D _ _ hD HK.out rfl rfl)⟩

/-- The labels of a byte each. -/
def lab1 (x : ByteArray) : Bool := lower1 ((x.data.toList.headD 0).toNat : Nat)
theorem is_gen (s : ByteArray) (ps : List ByteArray) (cn : Int) (w : World) (hsz : (s.size : Int) ≤ 64) (hcn : Lib.countByte s.data.toList 46 = cn) (hcl : cn < 8) (hps : ∀ x ∈ ps, ∃ c : UInt8, x = ⟨#[c]⟩ ∧ c.toNat < 128) (hsp : SpTold s ps) :
    Calls Tryz.prog 48 #[.string s] w fun e w' => e = .returned (.bool (ps.all lab1)) ∧ Below w.heap.size w w' := by
  have N := fun W => name_any s ps lab1 8 64 cn W hsz hcn hcl (fun x hx W => by obtain ⟨c, rfl, hc⟩ := hps x hx; exact label_one c hc W) hsp
  go_enter Tryz.func48, Tryz.ntmps48
  go_wp2_with fail
  refine (N _).mono ?_; rintro e w1 ⟨rfl, hb1⟩
  go_wp2_with fail
  go_ret
  exact ⟨rfl, hb1⟩
def sA : ByteArray := ⟨#[97]⟩
def sX : ByteArray := ⟨#[120, 46, 97]⟩
def sS : ByteArray := ⟨#[42, 46, 97]⟩
theorem is_a (w : World) : Calls Tryz.prog 48 #[.string ⟨#[97]⟩] w fun e w' => e = .returned (.bool true) ∧ Below w.heap.size w w' :=
  is_gen ⟨#[97]⟩ [⟨#[97]⟩] 0 w (by decide) (by decide) (by decide) (fun x hx => ⟨97, List.mem_singleton.1 hx, by decide⟩) (told_one _ (by decide))
theorem is_x (w : World) : Calls Tryz.prog 48 #[.string ⟨#[120, 46, 97]⟩] w fun e w' => e = .returned (.bool true) ∧ Below w.heap.size w w' :=
  is_gen ⟨#[120, 46, 97]⟩ [⟨#[120]⟩, ⟨#[97]⟩] 1 w (by decide) (by decide) (by decide) (fun x hx => by
    rcases List.mem_cons.1 hx with rfl | hx
    · exact ⟨120, rfl, by decide⟩
    · exact ⟨97, List.mem_singleton.1 hx, by decide⟩) (told_two 120 97 (by decide) (by decide))
theorem is_s (w : World) : Calls Tryz.prog 48 #[.string ⟨#[42, 46, 97]⟩] w fun e w' => e = .returned (.bool false) ∧ Below w.heap.size w w' :=
  is_gen ⟨#[42, 46, 97]⟩ [⟨#[42]⟩, ⟨#[97]⟩] 1 w (by decide) (by decide) (by decide) (fun x hx => by
    rcases List.mem_cons.1 hx with rfl | hx
    · exact ⟨42, rfl, by decide⟩
    · exact ⟨97, List.mem_singleton.1 hx, by decide⟩) (told_two 42 97 (by decide) (by decide))
theorem name_a (w : World) : Calls Tryz.prog 85 #[.string ⟨#[97]⟩, .int .i64 7, .int .i64 62] w fun e w' => e = .returned (.bool true) ∧ Below w.heap.size w w' :=
  name_any ⟨#[97]⟩ [⟨#[97]⟩] lab1 7 62 0 w (by decide) (by decide) (by decide) (fun x hx W => by obtain rfl := List.mem_singleton.1 hx; exact label_one 97 (by decide) W) (told_one _ (by decide))
/-- The pattern of the example. -/
theorem pattern_s (w : World) : Calls Tryz.prog 47 #[.string ⟨#[42, 46, 97]⟩] w fun e w' => e = .returned (.tuple #[.string ⟨#[97]⟩, .bool true, .bool true]) ∧ Below w.heap.size w w' := by
  have S := is_s w
  have C := fun W => Sh.strings_CutPrefix ⟨#[42, 46, 97]⟩ ⟨#[42, 46]⟩ W
  rw [show (⟨(Lib.trimPrefix (⟨#[42, 46, 97]⟩ : ByteArray).data.toList (⟨#[42, 46]⟩ : ByteArray).data.toList).toArray⟩ : ByteArray) = ⟨#[97]⟩ from rfl, show Lib.hasPrefix (⟨#[42, 46, 97]⟩ : ByteArray).data.toList (⟨#[42, 46]⟩ : ByteArray).data.toList = true from rfl] at C
  have N := fun W => name_a W
  go_enter Tryz.func47, Tryz.ntmps47
  go_wp2_with fail
  refine S.mono ?_; rintro e w1 ⟨rfl, hb1⟩
  go_wp2_with fail
  refine (C _).mono ?_; rintro e w2 ⟨rfl, rfl⟩
  go_wp2_with fail
  refine (N _).mono ?_; rintro e w3 ⟨rfl, hb3⟩
  go_wp2_with fail
  go_ret3
  exact ⟨rfl, hb1.trans (hb3.mono hb1.size)⟩
end Go.Proofs.YtlaidjgdipacgaaGreatDoor
end

section
namespace Go.Proofs.YtlaidjgdipacgaaGreatDoor
open Go.RowKit Go.Shelf
attribute [local go_sem] Oper.semAt_some

theorem bel_drewN' {n : Nat} {w0 w : World} (h : Below n w0 w) (q : Nat) : Below n w0 (w.drewN q) := ⟨h.os, h.tape, h.output, h.size, h.block⟩
set_option maxRecDepth 100000 in
theorem up_x (w : World) : Calls Tryz.prog 118 #[.string ⟨#[120, 46, 97]⟩] w fun e w' => e = .returned (.string ⟨#[97]⟩) ∧ Below w.heap.size w w' := by
  have S := is_x w
  have C : ∀ W, Calls Tryz.prog 163 #[.string ⟨#[120, 46, 97]⟩, .string ⟨#[46]⟩] W fun e w' => e = .returned (.tuple #[.string ⟨#[120]⟩, .string ⟨#[97]⟩, .bool true]) ∧ Below W.heap.size W w' := fun W => by
    have I := fun W => Sh.stringslite_Index_one ⟨#[120, 46, 97]⟩ 46 W
    rw [show Lib.indexByte (⟨#[120, 46, 97]⟩ : ByteArray).data.toList 46 = 1 from by decide] at I
    go_enter Tryz.func163, Tryz.ntmps163
    go_wp2_with fail
    refine (I _).mono ?_; rintro e w1 ⟨rfl, rfl⟩
    go_wp2_with fail
    go_quiet (fail)
    go_wp2_with fail
    go_ret3
    exact ⟨rfl, bel_drewN' (Below.refl _ _) _⟩
  have D : ∀ W, Calls Tryz.prog 146 #[.string ⟨#[120, 46, 97]⟩, .string ⟨#[46]⟩] W fun e w' => e = .returned (.tuple #[.string ⟨#[120]⟩, .string ⟨#[97]⟩, .bool true]) ∧ Below W.heap.size W w' := fun W => by
    go_enter Tryz.func146, Tryz.ntmps146
    go_wp2_with fail
    refine (C _).mono ?_; rintro e w1 ⟨rfl, hb⟩
    go_wp2_with fail
    go_ret3
    exact ⟨rfl, hb⟩
  clear C
  go_enter Tryz.func118, Tryz.ntmps118
  go_wp2_with fail
  refine S.mono ?_; rintro e w1 ⟨rfl, hb1⟩
  go_wp2_with fail
  refine (D _).mono ?_; rintro e w2 ⟨rfl, hb2⟩
  go_wp2_with fail
  go_ret
  exact ⟨rfl, hb1.trans (hb2.mono hb1.size)⟩
set_option maxRecDepth 100000 in
theorem up_a (w : World) : Calls Tryz.prog 118 #[.string ⟨#[97]⟩] w fun e w' => e = .returned (.string ⟨#[]⟩) ∧ Below w.heap.size w w' := by
  have S := is_a w
  have C : ∀ W, Calls Tryz.prog 163 #[.string ⟨#[97]⟩, .string ⟨#[46]⟩] W fun e w' => e = .returned (.tuple #[.string ⟨#[97]⟩, .string ⟨#[]⟩, .bool false]) ∧ Below W.heap.size W w' := fun W => by
    have I := fun W => Sh.stringslite_Index_one ⟨#[97]⟩ 46 W
    rw [show Lib.indexByte (⟨#[97]⟩ : ByteArray).data.toList 46 = -1 from by decide] at I
    go_enter Tryz.func163, Tryz.ntmps163
    go_wp2_with fail
    refine (I _).mono ?_; rintro e w1 ⟨rfl, rfl⟩
    go_wp2_with fail
    go_ret3
    exact ⟨rfl, Below.refl _ _⟩
  have D : ∀ W, Calls Tryz.prog 146 #[.string ⟨#[97]⟩, .string ⟨#[46]⟩] W fun e w' => e = .returned (.tuple #[.string ⟨#[97]⟩, .string ⟨#[]⟩, .bool false]) ∧ Below W.heap.size W w' := fun W => by
    go_enter Tryz.func146, Tryz.ntmps146
    go_wp2_with fail
    refine (C _).mono ?_; rintro e w1 ⟨rfl, hb⟩
    go_wp2_with fail
    go_ret3
    exact ⟨rfl, hb⟩
  clear C
  go_enter Tryz.func118, Tryz.ntmps118
  go_wp2_with fail
  refine S.mono ?_; rintro e w1 ⟨rfl, hb1⟩
  go_wp2_with fail
  refine (D _).mono ?_; rintro e w2 ⟨rfl, hb2⟩
  go_wp2_with fail
  go_ret
  exact ⟨rfl, hb1.trans (hb2.mono hb1.size)⟩

set_option maxRecDepth 100000 in
set_option maxHeartbeats 2000000 in
theorem above_x (N : Nat) (hn : 1 ≤ N) (l P n0 : Nat) (hn0 : P < n0) (J Jx : List ByteArray → World → Prop)
    (hJ : ∀ pre W W', J pre W → Only (OneB P) W W' → J pre W')
    (hY : ∀ pre (z : ByteArray) V0 V, J pre V0 → Below V0.heap.size V0 V → ([⟨#[97]⟩] : List ByteArray)[pre.length]? = some z → YieldAt Fence.wide (N - 1) Tryz.prog l #[.string z] V fun e V' =>
      (e = .returned (.bool true) ∧ J (pre ++ [z]) V' ∧ Below n0 V V') ∨ (e = .returned (.bool false) ∧ Jx (pre ++ [z]) V'))
    (W : World) (hb : Boxed W P 9 (.string ⟨#[120, 46, 97]⟩)) (h0 : J [] W) :
    CallsIn Fence.wide N Tryz.prog 117 #[.func (.yield l) #[] #[], .pointer (some ⟨P, 0, none⟩)] W fun e W' => (∃ v, e = .returned v) ∧
      ((∃ xs : List ByteArray, xs = [⟨#[97]⟩] ∧ J xs W') ∨ (∃ pre : List ByteArray, True ∧ Jx pre W')) := by
  refine callsIn_of_wp Tryz.func117 rfl trivial ?_ rfl
  simp only [Tryz.ntmps117, List.size_toArray, List.length_cons, List.length_nil, Nat.reduceAdd, Nat.reduceSub, Array.replicate_succ, Array.replicate_zero, List.push_toArray, List.append_toArray, List.nil_append, List.cons_append]
  have c0 := hb.cell
  have U := fun W => up_x W
  have U2 := fun W => up_a W
  have HB := Lib.hid hb; have HJ := Lib.hid hJ; have H0 := Lib.hid h0; have HY := Lib.hid hY
  clear hb hJ h0 hY
  gi_wp2_with (first
    | (refine ⟨trivial, ?_⟩; gi_at_call 118; refine (callsIn_wide.2 (U _)).mono ?_; clear U; rintro e w1 ⟨rfl, hb1⟩; have q1 : Boxed w1 P 9 (.string ⟨#[120, 46, 97]⟩) := (hb1.block P HB.out.lt).trans HB.out; have c1 := q1.cell; have f1 := q1.frozen; have l1 := q1.lt)
    | fail)
  have q2 := q1.set (.string ⟨#[97]⟩)
  have J2 : J [] (w1.setCell ⟨P, 0, none⟩ (.string ⟨#[97]⟩)) := HJ.out _ _ _ (HJ.out _ _ _ H0.out (Only.of_below hb1 _)) ((Only.refl (OneB P) w1).setCell (p := ⟨P, 0, none⟩) (.inl rfl) _)
  obtain ⟨W2, hW2⟩ : ∃ x, w1.setCell ⟨P, 0, none⟩ (.string ⟨#[97]⟩) = x := ⟨_, rfl⟩
  rw [hW2] at q2 J2 ⊢
  have c2 := q2.cell
  obtain ⟨fn, tmps, assign, body, hy, hR⟩ := HY.out [] ⟨#[97]⟩ W2 W2 J2 (Below.refl _ _) rfl
  have Q2 := Lib.hid q2
  have hR' := hR.mono (R' := fun e W' => ∃ b, e = .returned (.bool b) ∧ ((b = true ∧ J [⟨#[97]⟩] W' ∧ Below n0 W2 W') ∨ (b = false ∧ Jx [⟨#[97]⟩] W'))) (fun e W' h => by
    rcases h with ⟨rfl, h, hk⟩ | ⟨rfl, h⟩
    · exact ⟨true, rfl, .inl ⟨rfl, h, hk⟩⟩
    · exact ⟨false, rfl, .inr ⟨rfl, h⟩⟩)
  clear q1 q2 hR hW2 c1 f1 l1 hb1 J2 HY H0
  refine wpIn_loop_rounds 2 ?_
  rw [roundsIn_succ]
  gi_wp2_with (first
    | (refine hR'.mono ?_; clear hR'; rintro e W5 ⟨b, rfl, hc⟩; rcases hc with ⟨rfl, hJ5, hk5⟩ | ⟨rfl, hJx⟩
       have q5 : Boxed W5 P 9 (.string ⟨#[97]⟩) := (hk5.block P hn0).trans Q2.out
       have c5 := q5.cell; have f5 := q5.frozen; have l5 := q5.lt)
    | (refine ⟨trivial, ?_⟩; gi_at_call 118; refine (callsIn_wide.2 (U2 _)).mono ?_; clear U2; rintro e w6 ⟨rfl, hb6⟩; have q6 : Boxed w6 P 9 (.string ⟨#[97]⟩) := (hb6.block P q5.lt).trans q5; have c6 := q6.cell; have f6 := q6.frozen; have l6 := q6.lt)
    | fail)
  · have J7 : J [⟨#[97]⟩] (w6.setCell ⟨P, 0, none⟩ (.string ⟨#[]⟩)) := HJ.out _ _ _ (HJ.out _ _ _ hJ5 (Only.of_below hb6 _)) ((Only.refl (OneB P) w6).setCell (p := ⟨P, 0, none⟩) (.inl rfl) _)
    have q7 := q6.set (.string ⟨#[]⟩)
    obtain ⟨W7, hW7⟩ : ∃ x, w6.setCell ⟨P, 0, none⟩ (.string ⟨#[]⟩) = x := ⟨_, rfl⟩
    rw [hW7] at J7 q7 ⊢
    have c7 := q7.cell
    have J7h := Lib.hid J7
    clear q5 q6 c5 f5 l5 c6 f6 l6 q7 hW7 J7 hJ5 hk5 hb6
    rw [roundsIn_succ]
    gi_wp2_with fail
    refine ⟨fun _ h => (by cases h), ?_⟩
    gi_wp2_with fail
    go_end0
    exact ⟨⟨_, rfl⟩, .inl ⟨[⟨#[97]⟩], rfl, J7h.out⟩⟩
  · go_end0
    exact ⟨⟨_, rfl⟩, .inr ⟨[⟨#[97]⟩], trivial, hJx⟩⟩

set_option maxRecDepth 100000 in
set_option maxHeartbeats 2000000 in
theorem above_a (N : Nat) (hn : 1 ≤ N) (l P : Nat) (J Jx : List ByteArray → World → Prop)
    (hJ : ∀ pre W W', J pre W → Only (OneB P) W W' → J pre W')
    (W : World) (hb : Boxed W P 9 (.string ⟨#[97]⟩)) (h0 : J [] W) :
    CallsIn Fence.wide N Tryz.prog 117 #[.func (.yield l) #[] #[], .pointer (some ⟨P, 0, none⟩)] W fun e W' => (∃ v, e = .returned v) ∧
      ((∃ xs : List ByteArray, xs = [] ∧ J xs W') ∨ (∃ pre : List ByteArray, True ∧ Jx pre W')) := by
  refine callsIn_of_wp Tryz.func117 rfl trivial ?_ rfl
  simp only [Tryz.ntmps117, List.size_toArray, List.length_cons, List.length_nil, Nat.reduceAdd, Nat.reduceSub, Array.replicate_succ, Array.replicate_zero, List.push_toArray, List.append_toArray, List.nil_append, List.cons_append]
  have c0 := hb.cell
  have U := fun W => up_a W
  have HB := Lib.hid hb; have HJ := Lib.hid hJ; have H0 := Lib.hid h0
  clear hb hJ h0
  gi_wp2_with (first
    | (refine ⟨trivial, ?_⟩; gi_at_call 118; refine (callsIn_wide.2 (U _)).mono ?_; clear U; rintro e w1 ⟨rfl, hb1⟩; have q1 : Boxed w1 P 9 (.string ⟨#[97]⟩) := (hb1.block P HB.out.lt).trans HB.out; have c1 := q1.cell; have f1 := q1.frozen; have l1 := q1.lt)
    | fail)
  have q2 := q1.set (.string ⟨#[]⟩)
  have J2 : J [] (w1.setCell ⟨P, 0, none⟩ (.string ⟨#[]⟩)) := HJ.out _ _ _ (HJ.out _ _ _ H0.out (Only.of_below hb1 _)) ((Only.refl (OneB P) w1).setCell (p := ⟨P, 0, none⟩) (.inl rfl) _)
  obtain ⟨W2, hW2⟩ : ∃ x, w1.setCell ⟨P, 0, none⟩ (.string ⟨#[]⟩) = x := ⟨_, rfl⟩
  rw [hW2] at q2 J2 ⊢
  have c2 := q2.cell
  have JH := Lib.hid J2
  clear q1 q2 hW2 c1 f1 l1 hb1 J2 H0
  refine wpIn_loop_rounds 1 ?_
  rw [roundsIn_succ]
  gi_wp2_with fail
  refine ⟨fun _ h => (by cases h), ?_⟩
  gi_wp2_with fail
  go_end0
  exact ⟨⟨_, rfl⟩, .inl ⟨[], rfl, JH.out⟩⟩
/-- What the iterator over the names above one tells. -/
def AbTold (s : ByteArray) (ps : List ByteArray) : Prop := ∀ (w0 : World) (P : Nat), Boxed w0 P 9 (.string s) →
  SeqTold Fence.wide 5 Tryz.prog 117 #[.pointer (some ⟨P, 0, none⟩)] (fun x : ByteArray => #[Value.string x]) (OneB P) (fun pre x _ _ => ps[pre.length]? = some x) (fun _ V V' => Below w0.heap.size V V')
    (fun xs => xs = ps) (fun _ => True) w0
theorem told_x : AbTold ⟨#[120, 46, 97]⟩ [⟨#[97]⟩] := fun w0 P hb l J Jx X hX hJ _ hY h0 =>
  above_x 5 (by omega) l P w0.heap.size hb.lt J Jx hJ hY X ((hX.block P hb.lt).trans hb) h0
theorem told_a : AbTold ⟨#[97]⟩ [] := fun w0 P hb l J Jx X hX hJ _ _ h0 =>
  above_a 5 (by omega) l P J Jx hJ X ((hX.block P hb.lt).trans hb) h0
theorem aboveS_any (s : ByteArray) (w : World) : Calls Tryz.prog 86 #[.string s] w fun e w' => e = .returned (.func (.func 117) #[] #[.pointer (some ⟨w.heap.size, 0, none⟩)]) ∧ w' = w.alloc (.cells #[.string s] 9) := by
  go_enter Tryz.func86, Tryz.ntmps86
  go_wp2
  go_ret
  exact ⟨rfl, rfl⟩

set_option maxRecDepth 100000 in
set_option maxHeartbeats 4000000 in
theorem below_gen (s o : ByteArray) (ps : List ByteArray) (w : World) (hsp : AbTold s ps) :
    Calls Tryz.prog 49 #[.string s, .string o] w fun e w' => e = .returned (.bool (ps.any (fun x => (x.toList == o.toList)))) ∧ Below w.heap.size w w' := by
  obtain ⟨B, hB⟩ : ∃ B, w.heap.size = B := ⟨_, rfl⟩
  have p0 := (Boxed.new w 9 (.string o)).alloc (.cells #[.bool false] 4)
  have p1 := Boxed.new (w.alloc (.cells #[.string o] 9)) 4 (.bool false)
  obtain ⟨W0, hW0⟩ : ∃ W, (w.alloc (.cells #[.string o] 9)).alloc (.cells #[.bool false] 4) = W := ⟨_, rfl⟩
  have hb0 : Below w.heap.size w W0 := by rw [← hW0]; exact ((Below.refl _ _).alloc (Nat.le_refl _) _).alloc (by simp) _
  have sz0 : W0.heap.size = B + 2 := by rw [← hW0]; simp [hB]
  rw [World.size_alloc] at p1
  rw [hW0, hB] at p0 p1
  have HW := Lib.hid hW0; have HB := Lib.hid hB; have HB0 := Lib.hid hb0; have P0 := Lib.hid p0; have P1 := Lib.hid p1; have SZ0 := Lib.hid sz0; have HSp := Lib.hid hsp
  clear hsp hW0 hB hb0 p0 p1 sz0
  refine (callsIn_wide (n := 6)).1 ?_
  refine callsIn_of_wp_marks Tryz.func49 rfl trivial ?_ rfl
  simp only [Tryz.ntmps49, List.size_toArray, List.length_cons, List.length_nil, Nat.reduceAdd, Nat.reduceSub, Array.replicate_succ, Array.replicate_zero, List.push_toArray, List.append_toArray, List.nil_append, List.cons_append]
  gi_wp2_with fail
  rw [show (w.alloc (.cells #[.string o] 9)).alloc (.cells #[.bool false] 4) = W0 from HW.out, HB.out]
  refine ⟨trivial, ?_⟩
  refine (callsIn_wide.2 (aboveS_any s W0)).mono ?_
  rintro e w1 ⟨rfl, hw1⟩
  have p2 := Boxed.new W0 9 (.string s)
  have hVw : Below W0.heap.size W0 w1 := by rw [hw1]; exact (Below.refl _ _).alloc (Nat.le_refl _) _
  have hsz1 : w1.heap.size = B + 3 := by rw [hw1]; simp [SZ0.out]
  rw [SZ0.out, ← hw1] at p2
  have q0 : Boxed w1 B 9 (.string o) := (hVw.block B (by rw [SZ0.out]; omega)).trans P0.out
  have q1 : Boxed w1 (B + 1) 4 (.bool false) := (hVw.block (B + 1) (by rw [SZ0.out]; omega)).trans P1.out
  have hb1 : Below w.heap.size w w1 := HB0.out.trans (hVw.mono HB0.out.size)
  have Hsq := Lib.hid (HSp.out w1 (B + 2) p2); have HB1 := Lib.hid hb1; have Q0 := Lib.hid q0; have Q1 := Lib.hid q1; have SZ1 := Lib.hid hsz1
  rw [SZ0.out]
  clear hb1 q0 q1 hVw p2 hw1 HW P0 P1
  have hwB := HB.out
  have grw : ∀ (A X : World) (row : Option Nat) (k : Nat) (t : TypeId) (v : Value), k < B + 3 → A.grownBy X row → (∀ r, row = some r → w1.heap.size ≤ r ∧ ∃ o : Obj, A.heap[r]? = some o ∧ o.isCells = false) → Boxed A k t v → Boxed X k t v := fun A X row k t v hk hg hr h => h.kept hg (fun e => by have := (hr _ e.symm).1; have := SZ1.out; omega)
  have grb : ∀ (A X : World) (row : Option Nat), A.grownBy X row → (∀ r, row = some r → w1.heap.size ≤ r ∧ ∃ o : Obj, A.heap[r]? = some o ∧ o.isCells = false) → Below w.heap.size w A → Below w.heap.size w X := fun A X row hg hr h => h.grown hg h.size (fun k e => by have := (hr _ e).1; have := SZ1.out; omega)
  have Grw := Lib.hid grw; have Grb := Lib.hid grb
  clear grw grb
  gi_wp2_with fail
  refine wpIn_told rfl (by omega) (gf := 117) (lb := #[.pointer (some ⟨B + 2, 0, none⟩)]) rfl trivial (enters_of Tryz.func117 (by kernel_rfl) rfl)
    Hsq.out ?kb (Below.refl _ _) (fun _ => rfl) (fun pre X => Boxed X B 9 (.string o) ∧ Boxed X (B + 1) 4 (.bool false) ∧ Below w.heap.size w X ∧ ∀ x ∈ pre, (x.toList == o.toList) = false) (fun c _ X => c = .ret ∧ ps.any (fun x => (x.toList == o.toList)) = true ∧ Boxed X (B + 1) 4 (.bool true) ∧ Below w.heap.size w X) (fun k hk => by have := SZ1.out; unfold OneB at hk; omega) ?hi ?hix ?hib ?hixb ⟨Q0.out, Q1.out, HB1.out, by simp⟩ ?round ?done ?stop
  case kb => exact fun xs A X l o o' h hl ho hc hw => h.trans (belowK_b (w := w1) (Nat.le_refl _) X l o o' hl ho hc hw)
  case hi => exact fun pre A X row h hg hr => ⟨Grw.out A X row B _ _ (by omega) hg hr h.1, Grw.out A X row (B + 1) _ _ (by omega) hg hr h.2.1, Grb.out A X row hg hr h.2.2.1, h.2.2.2⟩
  case hix => exact fun c pre A X row h hg hr => ⟨h.1, h.2.1, Grw.out A X row (B + 1) _ _ (by omega) hg hr h.2.2.1, Grb.out A X row hg hr h.2.2.2⟩
  case hib => exact fun pre A X h ho => ⟨ho.boxed h.1 (by unfold OneB; omega), ho.boxed h.2.1 (by unfold OneB; omega), h.2.2.1.trans (ho.to_below h.2.2.1.size (fun k hk => by unfold OneB; omega)), h.2.2.2⟩
  case hixb => exact fun c pre A X h ho => ⟨h.1, h.2.1, ho.boxed h.2.2.1 (by unfold OneB; omega), h.2.2.2.trans (ho.to_below h.2.2.2.size (fun k hk => by unfold OneB; omega))⟩
  case round =>
    rintro l pre x W2 X hl ⟨hq, hq1, hbX, hal⟩ hbw hR ⟨r, hr⟩
    dsimp only at hR ⊢
    have hmem : x ∈ ps := List.mem_of_getElem? hR
    have hbX2 := hbX.trans (hbw.mono hbX.size)
    have hqX := (hbw.block B hq.lt).trans hq
    have hqX1 := (hbw.block (B + 1) hq1.lt).trans hq1
    obtain ⟨bx, hbx⟩ : ∃ b, (x.toList == o.toList) = b := ⟨_, rfl⟩
    have HQX := Lib.hid hqX; have HQX1 := Lib.hid hqX1; have HBX := Lib.hid hbX2; have HAL := Lib.hid hal; have HBx := Lib.hid hbx; have HR := Lib.hid hr; have HM := Lib.hid hmem
    clear hqX hqX1 hbX2 hal hbx hr hq hq1 hbX hR hmem
    gi_wp2
    refine ⟨KeepsFrom.refl _ _, fun r' => ?_⟩
    have hr := HR.out
    have hlX := (Array.getElem?_eq_some_iff.1 hr).1
    have pb : Below w1.heap.size X (X.putObj l (.loop r')) := belowK_b (w := w1) (Nat.le_refl _) X l _ _ hl hr rfl rfl
    have q2 : Boxed (X.putObj l (.loop r')) B 9 (.string o) := (pb.block B (by have := SZ1.out; omega)).trans HQX.out
    have q3 : Boxed (X.putObj l (.loop r')) (B + 1) 4 (.bool false) := (pb.block (B + 1) (by have := SZ1.out; omega)).trans HQX1.out
    have bw2 : Below w.heap.size w (X.putObj l (.loop r')) := HBX.out.trans ((pb.mono (by have := SZ1.out; omega)))
    obtain ⟨V2, hV2⟩ : ∃ V, X.putObj l (.loop r') = V := ⟨_, rfl⟩
    rw [hV2] at pb q2 q3 bw2 ⊢
    have PB := Lib.hid pb; have Q2 := Lib.hid q2; have Q3 := Lib.hid q3; have BW2 := Lib.hid bw2
    have c2 := q2.cell; have c3 := q3.cell; have f3 := q3.frozen; have l3 := q3.lt
    clear pb q2 q3 bw2 hV2 hr
    have hbx' := HBx.out
    cases bx with
    | false =>
      gi_wp2_with fail
      refine ⟨KeepsFrom.refl _ _, PB.out, Q2.out, Q3.out, BW2.out, ?_⟩
      intro y hy
      rcases List.mem_append.1 hy with h | h
      · exact HAL.out y h
      · obtain rfl := List.mem_singleton.1 h
        exact HBx.out
    | true =>
      gi_wp2_with fail
      have hps : ps.any (fun x => (x.toList == o.toList)) = true := List.any_eq_true.2 ⟨x, HM.out, HBx.out⟩
      refine ⟨(KeepsOthers.setCell _ _ _).from _, rfl, hps, Q3.out.set _, ?_⟩
      exact BW2.out.setCell (p := ⟨B + 1, 0, none⟩) (by show w.heap.size ≤ B + 1; omega) _
  case done =>
    rintro D xs X hD rfl ⟨-, hq, hbX, hal⟩ hK
    have hall : xs.any (fun x => (x.toList == o.toList)) = false := by rw [List.any_eq_false]; exact fun x hx => by rw [hal x hx]; simp
    have c5 := hq.cell; have f5 := hq.frozen; have l5 := hq.lt
    have HQ := Lib.hid hq; have HBX := Lib.hid hbX; have HK := Lib.hid hK; have HA := Lib.hid hall
    clear hq hbX hal hK hall
    gi_wp2
    have hDB : D ≠ B + 1 := by have := SZ1.out; omega
    have hK2 : (X.setCell ⟨B + 1, 0, none⟩ (.bool false)).heap[D]? = some (.deferred (some [])) := (Below.heap_setCell X ⟨B + 1, 0, none⟩ (.bool false) D hDB).trans HK.out
    have hq2 : ∀ o, Boxed ((X.setCell ⟨B + 1, 0, none⟩ (.bool false)).putObj D o) (B + 1) 4 (.bool false) := fun o => (World.putObj_heap_other (fun e => hDB e.symm)).trans (HQ.out.set (.bool false))
    have hb2 : Below w.heap.size w (X.setCell ⟨B + 1, 0, none⟩ (.bool false)) := HBX.out.setCell (p := ⟨B + 1, 0, none⟩) (by show w.heap.size ≤ B + 1; omega) _
    refine ⟨by simp, .inl ⟨_, _, rfl, run_takeDeferred hK2, ?_⟩⟩
    exact ⟨_, results_box1 (p := 4) rfl _ _ (B + 1) _ _ _ rfl (hq2 _) rfl Tryz.underlying4, by rw [HA.out], hb2.trans (belowK_b (w := w1) (by have := SZ1.out; omega) _ D _ _ hD hK2 rfl rfl)⟩
  case stop =>
    rintro D c pre X hD - ⟨rfl, hN, hq, hbX⟩ hK
    have HN := Lib.hid hN
    have HQ := Lib.hid hq; have HBX := Lib.hid hbX; have HK := Lib.hid hK
    clear hq hbX hK hN
    gi_wp2
    have hDB : D ≠ B + 1 := by have := SZ1.out; omega
    have hq2 : ∀ o, Boxed (X.putObj D o) (B + 1) 4 (.bool true) := fun o => (World.putObj_heap_other (fun e => hDB e.symm)).trans HQ.out
    refine ⟨by simp, .inl ⟨_, _, rfl, run_takeDeferred HK.out, ?_⟩⟩
    exact ⟨_, results_box1 (p := 4) rfl _ _ (B + 1) _ _ _ rfl (hq2 _) rfl Tryz.underlying4, by rw [HN.out], HBX.out.trans (belowK_b (w := w1) (by have := SZ1.out; omega) _ D _ _ hD HK.out rfl rfl)⟩

theorem below_x (w : World) : Calls Tryz.prog 49 #[.string ⟨#[120, 46, 97]⟩, .string ⟨#[97]⟩] w fun e w' => e = .returned (.bool true) ∧ Below w.heap.size w w' := by
  have h := below_gen ⟨#[120, 46, 97]⟩ ⟨#[97]⟩ _ w told_x
  rw [show ([⟨#[97]⟩] : List ByteArray).any (fun x => x.toList == (⟨#[97]⟩ : ByteArray).toList) = true by simp] at h
  exact h
theorem below_a (w : World) : Calls Tryz.prog 49 #[.string ⟨#[97]⟩, .string ⟨#[97]⟩] w fun e w' => e = .returned (.bool false) ∧ Below w.heap.size w w' := below_gen _ _ _ w told_a
theorem match_x (w : World) : Calls Tryz.prog 17 #[.string ⟨#[42, 46, 97]⟩, .string ⟨#[120, 46, 97]⟩] w fun e w' => e = .returned (.bool true) ∧ Below w.heap.size w w' := by
  have S1 := pattern_s w
  have S2 := fun W => is_x W
  have S3 := fun W => below_x W
  go_enter Tryz.func17, Tryz.ntmps17
  go_wp2_with fail
  refine S1.mono ?_; rintro e w1 ⟨rfl, hb1⟩
  go_wp2_with fail
  refine (S2 _).mono ?_; rintro e w2 ⟨rfl, hb2⟩
  go_wp2_with fail
  refine (S3 _).mono ?_; rintro e w3 ⟨rfl, hb3⟩
  go_wp2_with fail
  go_ret
  have q := hb1.trans (hb2.mono hb1.size)
  exact ⟨rfl, q.trans (hb3.mono q.size)⟩
theorem match_a (w : World) : Calls Tryz.prog 17 #[.string ⟨#[42, 46, 97]⟩, .string ⟨#[97]⟩] w fun e w' => e = .returned (.bool false) ∧ Below w.heap.size w w' := by
  have S1 := pattern_s w
  have S2 := fun W => is_a W
  have S3 := fun W => below_a W
  go_enter Tryz.func17, Tryz.ntmps17
  go_wp2_with fail
  refine S1.mono ?_; rintro e w1 ⟨rfl, hb1⟩
  go_wp2_with fail
  refine (S2 _).mono ?_; rintro e w2 ⟨rfl, hb2⟩
  go_wp2_with fail
  refine (S3 _).mono ?_; rintro e w3 ⟨rfl, hb3⟩
  go_wp2_with fail
  go_ret
  have q := hb1.trans (hb2.mono hb1.size)
  exact ⟨rfl, q.trans (hb3.mono q.size)⟩
end Go.Proofs.YtlaidjgdipacgaaGreatDoor
end
