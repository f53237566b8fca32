/-
  The reader's rest as levels of a day: what is kept from level to level.
-/
import Derived.Test.YtikgdpfnpcfkkaaGreatDoorYe
import Derived.Test.YtikgdpfnpcfkkaaGreatDoorDd
import Derived.Deep.CutBlock
import Derived.Maps.AppendAt
import Derived.Deep.AppendLies
import Derived.Deep.RegionLaw
namespace Go.Proofs.YtikgdpfnpcfkkaaGreatDoor
open Go.RowKit

namespace Cm
/-- The bytes bs are read: what is still to read. -/
def RestI (f : Nat → Dm.It → Except Int (List Int)) (day : Int) (S0 : Except Int (List Dm.It)) (bs : List (List Int)) : Except Int (List Dm.It) → Prop
  | .error c => restS f day S0 = .error c
  | .ok l => ∃ l0, S0 = .ok l0 ∧ bs.length + l.length ≤ 8192 ∧ levels f 0 l0 = (match levels f bs.length l with | .error e => .error e | .ok r => .ok (bs ++ r))
theorem levels_ok {f : Nat → Dm.It → Except Int (List Int)} {i : Nat} {x : Dm.It} {l : List Dm.It} {b : List Int} (h : f i x = .ok b) : levels f i (x :: l) = (match levels f (i + 1) l with | .error e => .error e | .ok bs => .ok (b :: bs)) := by
  conv => lhs; unfold levels
  rw [h]; rfl
theorem levels_err {f : Nat → Dm.It → Except Int (List Int)} {i : Nat} {x : Dm.It} {l : List Dm.It} {c : Int} (h : f i x = .error c) : levels f i (x :: l) = .error c := by
  conv => lhs; unfold levels
  rw [h]
theorem RestI.start {f : Nat → Dm.It → Except Int (List Int)} {day : Int} {S0 : Except Int (List Dm.It)} (h : ∀ l, S0 = .ok l → l.length ≤ 8192) : RestI f day S0 [] S0 := by
  cases S0 with
  | error c => exact rfl
  | ok l => exact ⟨l, rfl, by have := h l rfl; simpa using this, by cases levels f ([] : List (List Int)).length l <;> simp_all⟩
theorem RestI.next {f : Nat → Dm.It → Except Int (List Int)} {day : Int} {S0 : Except Int (List Dm.It)} {bs : List (List Int)} {x : Dm.It} {l : List Dm.It} (h : RestI f day S0 bs (.ok (x :: l))) :
    RestI f day S0 (bs ++ [(nx (f bs.length) [] (.ok (x :: l))).1]) (nx (f bs.length) [] (.ok (x :: l))).2 := by
  obtain ⟨l0, e0, hl, hv⟩ := h
  cases hf : f bs.length x with
  | error c =>
    rw [nx_err hf]
    show restS f day S0 = .error c
    subst e0
    show rest f day l0 = _
    unfold rest
    rw [hv, levels_err hf]
  | ok b =>
    rw [nx_ok hf]
    refine ⟨l0, e0, by simp at hl ⊢; omega, ?_⟩
    rw [hv, levels_ok hf, List.length_append]
    show _ = (match levels f (bs.length + 1) l with | .error e => Except.error e | .ok r => .ok (bs ++ [b] ++ r))
    cases levels f (bs.length + 1) l with
    | error e => rfl
    | ok r => simp
theorem RestI.done {f : Nat → Dm.It → Except Int (List Int)} {day : Int} {S0 : Except Int (List Dm.It)} {bs : List (List Int)} (h : RestI f day S0 bs (.ok [])) : restS f day S0 = if chk day (lvs day 0 bs) = 0 then .ok (day, lvs day 0 bs) else .error 71 := by
  obtain ⟨l0, e0, hl, hv⟩ := h
  subst e0
  show rest f day l0 = _
  unfold rest
  have e : levels f bs.length [] = .ok [] := by unfold levels; rfl
  rw [e] at hv
  replace hv : levels f 0 l0 = .ok (bs ++ []) := hv
  rw [hv, List.append_nil]
theorem RestI.room {f : Nat → Dm.It → Except Int (List Int)} {day : Int} {S0 : Except Int (List Dm.It)} {bs : List (List Int)} {x : Dm.It} {l : List Dm.It} (h : RestI f day S0 bs (.ok (x :: l))) : bs.length < 8192 := by
  obtain ⟨l0, e0, hl, hv⟩ := h
  simp at hl; omega
end Cm
theorem owns_but {W V : World} {R base n size : Nat} {e : TypeId} {v : Value} {xs : List Value} (h : W.ownsRow base e size v n xs) (hb : ButB R W V) (hR : R < base) : V.ownsRow base e size v n xs := ⟨h.1, h.2.imp_right (by
  rintro ⟨g, cap, cur, e, h1, h2, r⟩
  exact ⟨g, cap, cur, e, h1, (hb.block g (Array.getElem?_eq_some_iff.1 h2).1 (fun e => by have e' : g = R := e; omega)).trans h2, r⟩)⟩
/-- What rest holds behind k levels. -/
structure RstI (f : Nat → Dm.It → Except Int (List Int)) (day : Int) (R B : Nat) (S0 : Except Int (List Dm.It)) (we w wr : World) (k : Nat) (S : Except Int (List Dm.It)) (pre : List Lvl) (v : Value) (bs : List (List Int)) : Prop where
  len : pre.length = k
  c : Duo wr (B + 1) 32 (.int .i64 day) v
  own : wr.ownsRow (B + 2) 58 4 v k (levelCells pre)
  own8 : ∀ x ∈ pre, Own8 wr (B + 2) x
  bl : bs.length = k
  lv : pre.map (·.s) = Cm.lvs day 0 bs
  ri : Cm.RestI f day S0 bs S
  res : Duo wr B 32 (.int .i64 0) (.slice none 0 0)
  rd : RdR we wr R S
  bt : ButB R w wr
  sz : B + 2 ≤ wr.heap.size
theorem RstI.read {f : Nat → Dm.It → Except Int (List Int)} {day : Int} {R B : Nat} {S0 : Except Int (List Dm.It)} {we w wr w1 : World} {k : Nat} {S S' : Except Int (List Dm.It)} {pre : List Lvl} {v : Value} {bs : List (List Int)} (h : RstI f day R B S0 we w wr k S pre v bs) (hR : R < B) (hb : ButB R wr w1) (hrd : RdR we w1 R S')
    {w2 : World} (h2 : Below w1.heap.size w1 w2) :
    Duo w2 (B + 1) 32 (.int .i64 day) v ∧ w2.ownsRow (B + 2) 58 4 v k (levelCells pre) ∧ (∀ x ∈ pre, Own8 w2 (B + 2) x) ∧ Duo w2 B 32 (.int .i64 0) (.slice none 0 0) ∧ RdR we w2 R S' ∧ ButB R w w2 ∧ B + 2 ≤ w2.heap.size := by
  have hb2 := but_stp hb h2
  have ne : ∀ k, R < k → ¬ OneB R k := fun k hk e => by have e' : k = R := e; omega
  exact ⟨(hb2.block (B + 1) h.c.lt (ne _ (by omega))).trans h.c, owns_but h.own hb2 (by omega), fun x hx => ⟨owns_but (h.own8 x hx).1 hb2 (by omega), (h.own8 x hx).2⟩,
    (hb2.block B h.res.lt (ne _ hR)).trans h.res, hrd.moved (h2.block R hrd.lt), h.bt.trans hb2, Nat.le_trans h.sz hb2.size⟩
/-- One level more, behind the append and the store. -/
theorem RstI.step {f : Nat → Dm.It → Except Int (List Int)} {day : Int} {R B : Nat} {S0 : Except Int (List Dm.It)} {we w wr w2 V w5 : World} {k : Nat} {S : Except Int (List Dm.It)} {pre : List Lvl} {v v' rb : Value} {bs : List (List Int)} {x : Dm.It} {l : List Dm.It} {b : List Int}
    (h : RstI f day R B S0 we w wr k S pre v bs) (hS : S = .ok (x :: l)) (hR : R < B) (hBw : w.heap.size = B) (hb : b = (Cm.nx (f k) [] (.ok (x :: l))).1)
    (hd : Duo w2 (B + 1) 32 (.int .i64 day) v) (h8 : ∀ x ∈ pre, Own8 w2 (B + 2) x) (hres : Duo w2 B 32 (.int .i64 0) (.slice none 0 0)) (hrd : RdR we w2 R (Cm.nx (f k) [] (.ok (x :: l))).2) (hbt : ButB R w w2) (hsz : B + 2 ≤ w2.heap.size)
    (hown : w2.ownsRow (B + 2) 58 4 v k (levelCells pre)) (hrb : w2.ownsRow (B + 2) 5 1 rb b.length (b.map (Value.int .u8))) (hby : ∀ y ∈ b, byte y)
    (hV : Below w2.heap.size w2 V) (hg : V.grownBy w5 v.ownBlock) (own5 : w5.ownsRow (B + 2) 58 4 v' (k + 1) (levelCells pre ++ [.int .i64 (8 * (b.length : Int)), .int .i64 3, .int .i64 (Cm.sal day k), rb])) :
    RstI f day R B S0 we w (w5.setCell ⟨B + 1, 1, none⟩ v') (k + 1) (Cm.nx (f k) [] (.ok (x :: l))).2 (pre ++ [⟨k, Cm.lvOf day k b, rb, 0⟩]) v' (bs ++ [b]) := by
  subst hS
  have hgo : ∀ g, v.ownBlock = some g → B + 2 ≤ g ∧ g < w2.heap.size := fun g hg => World.ownsRow.lt hown g hg
  have blk : ∀ g, g < w2.heap.size → some g ≠ v.ownBlock → g ≠ B + 1 → (w5.setCell ⟨B + 1, 1, none⟩ v').heap[g]? = w2.heap[g]? := fun g hg1 hg2 hg3 =>
    (Below.heap_setCell w5 ⟨B + 1, 1, none⟩ v' g hg3).trans ((hg.block g (Nat.lt_of_lt_of_le hg1 hV.size) hg2).trans (hV.block g hg1))
  have low : ∀ g, g < B + 2 → some g ≠ v.ownBlock := fun g hg e => by have := hgo g e.symm; omega
  have hss : (w5.setCell ⟨B + 1, 1, none⟩ v').heap.size = w5.heap.size := by simp
  have h25 : w2.heap.size ≤ w5.heap.size := Nat.le_trans hV.size hg.size
  have keep8 : ∀ {u : Value} {n : Nat} {xs : List Value}, w2.ownsRow (B + 2) 5 1 u n xs → (w5.setCell ⟨B + 1, 1, none⟩ v').ownsRow (B + 2) 5 1 u n xs := fun {u n xs} ho => by
    have hne := own_type_ne ho hown (by decide)
    refine ⟨ho.1, ho.2.imp_right ?_⟩
    rintro ⟨g, cap, cur, e, h1, h2, r⟩
    refine ⟨g, cap, cur, e, h1, (blk g (Array.getElem?_eq_some_iff.1 h2).1 (fun ee => ?_) (by omega)).trans h2, r⟩
    rcases hne with hne | hne
    · rw [e] at hne; simp [Value.ownBlock] at hne
    · rw [e] at hne; exact hne (by rw [← ee]; rfl)
  have d5 : Duo w5 (B + 1) 32 (.int .i64 day) v := (hg.block (B + 1) (by have := hV.size; omega) (low _ (by omega))).trans ((hV.block (B + 1) (by omega)).trans hd)
  refine ⟨by simp [h.len], d5.set1 v', ?_, ?_, by simp [h.bl], ?_, ?_, ?_, hrd.moved (blk R (by omega) (low R (by omega)) (by omega)), ?_, by rw [hss]; omega⟩
  · rw [levelCells_snoc]
    refine ⟨own5.1, own5.2.imp_right ?_⟩
    rintro ⟨g, cap, cur, e, h1, h2, r⟩
    exact ⟨g, cap, cur, e, h1, (Below.heap_setCell w5 ⟨B + 1, 1, none⟩ v' g (by show g ≠ B + 1; omega)).trans h2, r⟩
  · intro y hy
    rcases List.mem_append.1 hy with hy | hy
    · exact ⟨keep8 (h8 y hy).1, (h8 y hy).2⟩
    · rw [List.mem_singleton.1 hy]; exact ⟨keep8 hrb, hby⟩
  · rw [List.map_append, h.lv, Cm.lvs_snoc, h.bl, Nat.zero_add]; rfl
  · have := h.ri.next
    rw [h.bl] at this
    rw [hb]; exact this
  · exact (blk B (by omega) (low B (by omega)) (by omega)).trans hres
  · refine ⟨?_, ?_, ?_, ?_, fun g hg1 hg2 => ?_⟩
    · exact hg.os.trans (hV.os.trans hbt.os)
    · exact hg.tape.trans (hV.tape.trans hbt.tape)
    · exact hg.output.trans (hV.output.trans hbt.output)
    · rw [hss]; have := hbt.size; omega
    · exact (blk g (by have := hbt.size; omega) (low g (by omega)) (by omega)).trans (hbt.block g hg1 hg2)

theorem salt_all (day i z : Int) (w : World) (hz : IntKind.i64.wrap (IntKind.i64.wrap (16 * day) + i) = z) : Calls Tryz.prog 52 #[.int .i64 day, .int .i64 i] w fun e w' => e = .returned (.int .i64 z) ∧ w' = w := by
  obtain ⟨y, hy⟩ : ∃ y, IntKind.i64.wrap (16 * day) = y := ⟨_, rfl⟩
  rw [hy] at hz
  go_enter Tryz.func52, Tryz.ntmps52
  go_wp2_with fail
  go_ret
  exact ⟨rfl, rfl⟩
theorem but_rest {R B : Nat} {w wr : World} (h : ButB R w wr) (hB : w.heap.size = B) (x y : Value) : ButB R w ((wr.drew.setCell ⟨B, 0, none⟩ x).setCell ⟨B, 1, none⟩ y) :=
  Only.setCell (p := ⟨B, 1, none⟩) (Only.setCell (p := ⟨B, 0, none⟩) h.drew (.inr (by show w.heap.size ≤ B; omega)) x) (.inr (by show w.heap.size ≤ B; omega)) y
theorem asO_len {x : Dm.It} {b : List Int} (h : Cm.asO x = .ok b) (hw : Dm.wt x ≤ 10000) : b.length ≤ 10000 := by
  have e := Cm.asO_ok h
  subst e
  have := Dm.wt_eq (Cm.inO b)
  have e2 : (Cm.inO b).b = b := rfl
  rw [e2] at this
  omega
theorem nx_len {f : Dm.It → Except Int (List Int)} {x : Dm.It} {l : List Dm.It} (h : ∀ b, f x = .ok b → b.length ≤ 10000) : (Cm.nx f [] (.ok (x :: l))).1.length ≤ 10000 := by
  cases hf : f x with
  | error c => rw [Cm.nx_err hf]; simp
  | ok b => rw [Cm.nx_ok hf]; exact h b hf
/-- What is handed back where there is none. -/
theorem casc_none {tmps : Array Value} {W : World} {C : Nat} {fn : Func} {p q : Tmp} (hr : fn.results = #[.cell p 32, .tmp q]) (hp : tmps.getD p undef = .pointer (some ⟨C, 0, none⟩)) {x y z : Value} (hq : tmps.getD q undef = z)
    (hd : Duo W C 32 x y) : (results fn tmps).run Tryz.prog W = .ok (.tuple #[.agg #[x, y], z]) W := by
  rw [← hq]
  exact results_cell_tmp hr _ _ C _ _ _ _ hp hd Tryz.underlying32 rfl (by kernel_rfl)

end Go.Proofs.YtikgdpfnpcfkkaaGreatDoor
