/-
  The reader's rest as levels of a day: what is kept from level to level.
-/
import Derived.Test.YtfdchdnkblmijaaGreatDoorYe
import Derived.Test.YtfdchdnkblmijaaGreatDoorDd
import Derived.Deep.CutBlock
import Derived.Maps.AppendAt
import Derived.Deep.AppendLies
import Derived.Deep.RegionLaw
namespace Go.Proofs.YtfdchdnkblmijaaGreatDoor
open Go.RowKit

namespace Cm
/-- The bytes bs are read: what is still to read. -/
def RestI (f : Nat → Dm.It → Except Int (List Int)) (day : Int) (S0 : Except Int (List Dm.It)) (bs : List (List Int)) : Except Int (List Dm.It) → Prop
  | .error c => restS f day S0 = .error c
  | .ok l => ∃ l0, S0 = .ok l0 ∧ bs.length + l.length ≤ 8192 ∧ levels f 0 l0 = (match levels f bs.length l with | .error e => .error e | .ok r => .ok (bs ++ r))
theorem levels_ok {f : Nat → Dm.It → Except Int (List Int)} {i : Nat} {x : Dm.It} {l : List Dm.It} {b : List Int} (h : f i x = .ok b) : levels f i (x :: l) = (match levels f (i + 1) l with | .error e => .error e | .ok bs => .ok (b :: bs)) := by
  conv => lhs; unfold levels
  rw [h]; rfl
theorem levels_err {f : Nat → Dm.It → Except Int (List Int)} {i : Nat} {x : Dm.It} {l : List Dm.It} {c : Int} (h : f i x = .error c) : levels f i (x :: l) = .error c := by
  conv => lhs; unfold levels
  rw [h]
theorem RestI.start {f : Nat → Dm.It → Except Int (List Int)} {day : Int} {S0 : Except Int (List Dm.It)} (h : ∀ l, S0 = .ok l → l.length ≤ 8192) : RestI f day S0 [] S0 := by
  cases S0 with
  | error c => exact rfl
  | ok l => exact ⟨l, rfl, by have := h l rfl; simpa using this, by cases levels f ([] : List (List Int)).length l <;> simp_all⟩
theorem RestI.next {f : Nat → Dm.It → Except Int (List Int)} {day : Int} {S0 : Except Int (List Dm.It)} {bs : List (List Int)} {x : Dm.It} {l : List Dm.It} (h : RestI f day S0 bs (.ok (x :: l))) :
    RestI f day S0 (bs ++ [(nx (f bs.length) [] (.ok (x :: l))).1]) (nx (f bs.length) [] (.ok (x :: l))).2 := by
  obtain ⟨l0, e0, hl, hv⟩ := h
  cases hf : f bs.length x with
  | error c =>
    rw [nx_err hf]
    show restS f day S0 = .error c
    subst e0
    show rest f day l0 = _
    unfold rest
    rw [hv, levels_err hf]
  | ok b =>
    rw [nx_ok hf]
    refine ⟨l0, e0, by simp at hl ⊢; omega, ?_⟩
    rw [hv, levels_ok hf, List.length_append]
    show _ = (match levels f (bs.length + 1) l with | .error e => Except.error e | .ok r => .ok (bs ++ [b] ++ r))
    cases levels f (bs.length + 1) l with
    | error e => rfl
    | ok r => simp
theorem RestI.done {f : Nat → Dm.It → Except Int (List Int)} {day : Int} {S0 : Except Int (List Dm.It)} {bs : List (List Int)} (h : RestI f day S0 bs (.ok [])) : restS f day S0 = if chk day (lvs day 0 bs) = 0 then .ok (day, lvs day 0 bs) else .error 71 := by
  obtain ⟨l0, e0, hl, hv⟩ := h
  subst e0
  show rest f day l0 = _
  unfold rest
  have e : levels f bs.length [] = .ok [] := by unfold levels; rfl
  rw [e] at hv
  replace hv : levels f 0 l0 = .ok (bs ++ []) := hv
  rw [hv, List.append_nil]
theorem RestI.room {f : Nat → Dm.It → Except Int (List Int)} {day : Int} {S0 : Except Int (List Dm.It)} {bs : List (List Int)} {x : Dm.It} {l : List Dm.It} (h : RestI f day S0 bs (.ok (x :: l))) : bs.length < 8192 := by
  obtain ⟨l0, e0, hl, hv⟩ := h
  simp at hl; omega
end Cm
theorem owns_but {W V : World} {R base n size : Nat} {e : TypeId} {v : Value} {xs : List Value} (h : W.ownsRow base e size v n xs) (hb : ButB R W V) (hR : R < base) : V.ownsRow base e size v n xs := ⟨h.1, h.2.imp_right (by
  rintro ⟨g, cap, cur, e, h1, h2, r⟩
  exact ⟨g, cap, cur, e, h1, (hb.block g (Array.getElem?_eq_some_iff.1 h2).1 (fun e => by have e' : g = R := e; omega)).trans h2, r⟩)⟩
/-- What rest holds behind k levels. -/
structure RstI (f : Nat → Dm.It → Except Int (List Int)) (day : Int) (R B : Nat) (S0 : Except Int (List Dm.It)) (we w wr : World) (k : Nat) (S : Except Int (List Dm.It)) (pre : List Lvl) (v : Value) (bs : List (List Int)) : Prop where
  len : pre.length = k
  c : Duo wr (B + 1) 24 (.int .i64 day) v
  own : wr.ownsRow (B + 2) 41 4 v k (levelCells pre)
  own8 : ∀ x ∈ pre, Own8 wr (B + 2) x
  bl : bs.length = k
  lv : pre.map (·.s) = Cm.lvs day 0 bs
  ri : Cm.RestI f day S0 bs S
  res : Duo wr B 24 (.int .i64 0) (.slice none 0 0)
  rd : RdR we wr R S
  bt : ButB R w wr
  sz : B + 2 ≤ wr.heap.size
theorem RstI.read {f : Nat → Dm.It → Except Int (List Int)} {day : Int} {R B : Nat} {S0 : Except Int (List Dm.It)} {we w wr w1 : World} {k : Nat} {S S' : Except Int (List Dm.It)} {pre : List Lvl} {v : Value} {bs : List (List Int)} (h : RstI f day R B S0 we w wr k S pre v bs) (hR : R < B) (hb : ButB R wr w1) (hrd : RdR we w1 R S')
    {w2 : World} (h2 : Below w1.heap.size w1 w2) :
    Duo w2 (B + 1) 24 (.int .i64 day) v ∧ w2.ownsRow (B + 2) 41 4 v k (levelCells pre) ∧ (∀ x ∈ pre, Own8 w2 (B + 2) x) ∧ Duo w2 B 24 (.int .i64 0) (.slice none 0 0) ∧ RdR we w2 R S' ∧ ButB R w w2 ∧ B + 2 ≤ w2.heap.size := by
  have hb2 := but_stp hb h2
  have ne : ∀ k, R < k → ¬ OneB R k := fun k hk e => by have e' : k = R := e; omega
  exact ⟨(hb2.block (B + 1) h.c.lt (ne _ (by omega))).trans h.c, owns_but h.own hb2 (by omega), fun x hx => ⟨owns_but (h.own8 x hx).1 hb2 (by omega), (h.own8 x hx).2⟩,
    (hb2.block B h.res.lt (ne _ hR)).trans h.res, hrd.moved (h2.block R hrd.lt), h.bt.trans hb2, Nat.le_trans h.sz hb2.size⟩
/-- One level more, behind the append and the store. -/
theorem RstI.step {f : Nat → Dm.It → Except Int (List Int)} {day : Int} {R B : Nat} {S0 : Except Int (List Dm.It)} {we w wr w2 V w5 : World} {k : Nat} {S : Except Int (List Dm.It)} {pre : List Lvl} {v v' rb : Value} {bs : List (List Int)} {x : Dm.It} {l : List Dm.It} {b : List Int}
    (h : RstI f day R B S0 we w wr k S pre v bs) (hS : S = .ok (x :: l)) (hR : R < B) (hBw : w.heap.size = B) (hb : b = (Cm.nx (f k) [] (.ok (x :: l))).1)
    (hd : Duo w2 (B + 1) 24 (.int .i64 day) v) (h8 : ∀ x ∈ pre, Own8 w2 (B + 2) x) (hres : Duo w2 B 24 (.int .i64 0) (.slice none 0 0)) (hrd : RdR we w2 R (Cm.nx (f k) [] (.ok (x :: l))).2) (hbt : ButB R w w2) (hsz : B + 2 ≤ w2.heap.size)
    (hown : w2.ownsRow (B + 2) 41 4 v k (levelCells pre)) (hrb : w2.ownsRow (B + 2) 5 1 rb b.length (b.map (Value.int .u8))) (hby : ∀ y ∈ b, byte y)
    (hV : Below w2.heap.size w2 V) (hg : V.grownBy w5 v.ownBlock) (own5 : w5.ownsRow (B + 2) 41 4 v' (k + 1) (levelCells pre ++ [.int .i64 (8 * (b.length : Int)), .int .i64 3, .int .i64 (Cm.sal day k), rb])) :
    RstI f day R B S0 we w (w5.setCell ⟨B + 1, 1, none⟩ v') (k + 1) (Cm.nx (f k) [] (.ok (x :: l))).2 (pre ++ [⟨k, Cm.lvOf day k b, rb, 0⟩]) v' (bs ++ [b]) := by
  subst hS
  have hgo : ∀ g, v.ownBlock = some g → B + 2 ≤ g ∧ g < w2.heap.size := fun g hg => World.ownsRow.lt hown g hg
  have blk : ∀ g, g < w2.heap.size → some g ≠ v.ownBlock → g ≠ B + 1 → (w5.setCell ⟨B + 1, 1, none⟩ v').heap[g]? = w2.heap[g]? := fun g hg1 hg2 hg3 =>
    (Below.heap_setCell w5 ⟨B + 1, 1, none⟩ v' g hg3).trans ((hg.block g (Nat.lt_of_lt_of_le hg1 hV.size) hg2).trans (hV.block g hg1))
  have low : ∀ g, g < B + 2 → some g ≠ v.ownBlock := fun g hg e => by have := hgo g e.symm; omega
  have hss : (w5.setCell ⟨B + 1, 1, none⟩ v').heap.size = w5.heap.size := by simp
  have h25 : w2.heap.size ≤ w5.heap.size := Nat.le_trans hV.size hg.size
  have keep8 : ∀ {u : Value} {n : Nat} {xs : List Value}, w2.ownsRow (B + 2) 5 1 u n xs → (w5.setCell ⟨B + 1, 1, none⟩ v').ownsRow (B + 2) 5 1 u n xs := fun {u n xs} ho => by
    have hne := own_type_ne ho hown (by decide)
    refine ⟨ho.1, ho.2.imp_right ?_⟩
    rintro ⟨g, cap, cur, e, h1, h2, r⟩
    refine ⟨g, cap, cur, e, h1, (blk g (Array.getElem?_eq_some_iff.1 h2).1 (fun ee => ?_) (by omega)).trans h2, r⟩
    rcases hne with hne | hne
    · rw [e] at hne; simp [Value.ownBlock] at hne
    · rw [e] at hne; exact hne (by rw [← ee]; rfl)
  have d5 : Duo w5 (B + 1) 24 (.int .i64 day) v := (hg.block (B + 1) (by have := hV.size; omega) (low _ (by omega))).trans ((hV.block (B + 1) (by omega)).trans hd)
  refine ⟨by simp [h.len], d5.set1 v', ?_, ?_, by simp [h.bl], ?_, ?_, ?_, hrd.moved (blk R (by omega) (low R (by omega)) (by omega)), ?_, by rw [hss]; omega⟩
  · rw [levelCells_snoc]
    refine ⟨own5.1, own5.2.imp_right ?_⟩
    rintro ⟨g, cap, cur, e, h1, h2, r⟩
    exact ⟨g, cap, cur, e, h1, (Below.heap_setCell w5 ⟨B + 1, 1, none⟩ v' g (by show g ≠ B + 1; omega)).trans h2, r⟩
  · intro y hy
    rcases List.mem_append.1 hy with hy | hy
    · exact ⟨keep8 (h8 y hy).1, (h8 y hy).2⟩
    · rw [List.mem_singleton.1 hy]; exact ⟨keep8 hrb, hby⟩
  · rw [List.map_append, h.lv, Cm.lvs_snoc, h.bl, Nat.zero_add]; rfl
  · have := h.ri.next
    rw [h.bl] at this
    rw [hb]; exact this
  · exact (blk B (by omega) (low B (by omega)) (by omega)).trans hres
  · refine ⟨?_, ?_, ?_, ?_, fun g hg1 hg2 => ?_⟩
    · exact hg.os.trans (hV.os.trans hbt.os)
    · exact hg.tape.trans (hV.tape.trans hbt.tape)
    · exact hg.output.trans (hV.output.trans hbt.output)
    · rw [hss]; have := hbt.size; omega
    · exact (blk g (by have := hbt.size; omega) (low g (by omega)) (by omega)).trans (hbt.block g hg1 hg2)

theorem salt_all (day i z : Int) (w : World) (hz : IntKind.i64.wrap (IntKind.i64.wrap (16 * day) + i) = z) : Calls Tryz.prog 50 #[.int .i64 day, .int .i64 i] w fun e w' => e = .returned (.int .i64 z) ∧ w' = w := by
  obtain ⟨y, hy⟩ : ∃ y, IntKind.i64.wrap (16 * day) = y := ⟨_, rfl⟩
  rw [hy] at hz
  go_enter Tryz.func50, Tryz.ntmps50
  go_wp2_with fail
  go_ret
  exact ⟨rfl, rfl⟩
theorem GetC_any (i : Int) (w : World) : Calls Tryz.prog 30 #[.int .i64 i] w fun e w' => e = .returned (.func (.func 31) #[] #[]) ∧ w' = w := by
  go_enter Tryz.func30, Tryz.ntmps30
  go_wp2
  go_ret
  exact ⟨rfl, rfl⟩
theorem but_rest {R B : Nat} {w wr : World} (h : ButB R w wr) (hB : w.heap.size = B) (x y : Value) : ButB R w ((wr.drew.setCell ⟨B, 0, none⟩ x).setCell ⟨B, 1, none⟩ y) :=
  Only.setCell (p := ⟨B, 1, none⟩) (Only.setCell (p := ⟨B, 0, none⟩) h.drew (.inr (by show w.heap.size ≤ B; omega)) x) (.inr (by show w.heap.size ≤ B; omega)) y
theorem asO_len {x : Dm.It} {b : List Int} (h : Cm.asO x = .ok b) (hw : Dm.wt x ≤ 10000) : b.length ≤ 10000 := by
  have e := Cm.asO_ok h
  subst e
  have := Dm.wt_eq (Cm.inO b)
  have e2 : (Cm.inO b).b = b := rfl
  rw [e2] at this
  omega
theorem nx_len {f : Dm.It → Except Int (List Int)} {x : Dm.It} {l : List Dm.It} (h : ∀ b, f x = .ok b → b.length ≤ 10000) : (Cm.nx f [] (.ok (x :: l))).1.length ≤ 10000 := by
  cases hf : f x with
  | error c => rw [Cm.nx_err hf]; simp
  | ok b => rw [Cm.nx_ok hf]; exact h b hf
/-- What is handed back where there is none. -/
theorem casc_none {tmps : Array Value} {W : World} {C : Nat} {fn : Func} {p q : Tmp} (hr : fn.results = #[.cell p 24, .tmp q]) (hp : tmps.getD p undef = .pointer (some ⟨C, 0, none⟩)) {x y z : Value} (hq : tmps.getD q undef = z)
    (hd : Duo W C 24 x y) : (results fn tmps).run Tryz.prog W = .ok (.tuple #[.agg #[x, y], z]) W := by
  rw [← hq]
  exact results_cell_tmp hr _ _ C _ _ _ _ hp hd Tryz.underlying24 rfl (by kernel_rfl)

set_option maxRecDepth 100000 in
set_option maxHeartbeats 4000000 in
theorem restG_any (day : Int) (R : Nat) (S : Except Int (List Dm.It)) (we w : World) (hke : KindsAt we) (hsl : Slim we R) (hbt : ButB R we w) (h : RdR we w R S) :
    Calls Tryz.prog 29 #[.pointer (some ⟨R, 0, none⟩), .int .i64 day, .func (.func 30) #[] #[]] w fun e w' => CascR w' e (Cm.restS (fun _ => Cm.asO) day S) ∧ ButB R w w' := by
  obtain ⟨B, hB⟩ : ∃ B, w.heap.size = B := ⟨_, rfl⟩
  have hR : R < B := by rw [← hB]; exact h.lt
  obtain ⟨Z, hZ⟩ : ∃ Z, Cm.restS (fun _ => Cm.asO) day S = Z := ⟨_, rfl⟩
  rw [hZ]
  have q0 := (Duo.new w 24 (.int .i64 0) (.slice none 0 0)).alloc (.cells #[.int .i64 day, .slice none 0 0] 24)
  have q1 := Duo.new (w.alloc (.cells #[.int .i64 0, .slice none 0 0] 24)) 24 (.int .i64 day) (.slice none 0 0)
  have hb0 := ((Below.refl w.heap.size w).alloc (Nat.le_refl _) (.cells #[.int .i64 0, .slice none 0 0] 24)).alloc (by simp) (.cells #[.int .i64 day, .slice none 0 0] 24)
  have hsz : ((w.alloc (.cells #[.int .i64 0, .slice none 0 0] 24)).alloc (.cells #[.int .i64 day, .slice none 0 0] 24)).heap.size = B + 2 := by simp [hB]
  rw [World.size_alloc] at q1
  obtain ⟨W, hW⟩ : ∃ W, (w.alloc (.cells #[.int .i64 0, .slice none 0 0] 24)).alloc (.cells #[.int .i64 day, .slice none 0 0] 24) = W := ⟨_, rfl⟩
  rw [hW] at q0 q1 hb0 hsz
  rw [hB] at q0 q1
  have hI0 : RstI (fun _ => Cm.asO) day R B S we w W 0 S [] (.slice none 0 0) [] :=
    ⟨rfl, q1, World.ownsRow_nil _ _ _ _, (fun x hx => by cases hx), rfl, rfl, Cm.RestI.start (fun l hl => by rw [hl] at h; obtain ⟨_, _, _, _, hf⟩ := h; exact hf.1), q0, h.moved (hb0.block R h.lt), but_of hb0, by rw [hsz]; exact Nat.le_refl _⟩
  have HI0 := Lib.hid hI0; have HW := Lib.hid hW; have HB := Lib.hid hB; have HZ := Lib.hid hZ; have HR := Lib.hid hR; have HKE := Lib.hid hke; have HSL := Lib.hid hsl; have HBT := Lib.hid hbt
  clear hI0 hW hB hZ hR hke hsl hbt hb0 hsz q0 q1 h
  go_enter Tryz.func29, Tryz.ntmps29
  go_wp2_with fail
  rw [HW.out, HB.out]
  go_loopw [9, 10] (fun i _ wr => ∃ (k : Nat) (S' : Except Int (List Dm.It)) (pre : List Lvl) (v : Value) (bs : List (List Int)), i = .int .i64 k ∧ RstI (fun _ => Cm.asO) day R B S we w wr k S' pre v bs) (fun i _ _ => 8193 - (intOf i).toNat)
  case atStart => exact ⟨0, S, [], _, [], rfl, HI0.out⟩
  case round =>
    obtain ⟨k, S', pre, v, bs, rfl, hI⟩ := hrel
    have k0 : (0 : Int) ≤ (k : Int) := by omega
    have HI := Lib.hid hI
    have hrd := hI.rd
    have hC := hI.c
    have hRes := hI.res
    obtain ⟨va, vn, vc, rfl⟩ := owns_slice hI.own
    match S', HI, hrd with
    | .error cc, HI, hrd =>
      have hri := HI.out.ri
      have hz : Z = .error cc := by rw [← HZ.out]; exact hri
      obtain ⟨hc0, ra, rn, rk, hdR⟩ := hrd
      have c1 := hdR.cell1
      have r0 := hRes.cell0; have r1 := hRes.cell1; have f0 := hRes.free 0; have f1 := hRes.free 1
      have HZ2 := Lib.hid hz; have HRes := Lib.hid hRes
      have n1 : ¬ R = B := by have := HR.out; omega
      have n2 : ¬ B = R := by have := HR.out; omega
      clear hI hri hz hC hRes hdR
      go_upto_region 10 with fail
      go_region
      go_wp2_with fail
      refine bodyPost_ret (casc_none rfl rfl rfl ((HRes.out.drew.set0 _).set1 _)) rfl ?_
      rw [HZ2.out]
      exact ⟨rfl, but_rest HI.out.bt HB.out _ _⟩
    | .ok [], HI, hrd =>
      have hz := HZ.out.symm.trans HI.out.ri.done
      have hsv : Svs wr (.slice va vn vc) (Cm.lvs day 0 bs) := by
        rw [← HI.out.lv]
        exact svs_of (by rw [HI.out.len]; exact HI.out.own) HI.out.own8
      obtain ⟨nL, hnL⟩ : ∃ nL, (Cm.lvs day 0 bs).length = nL := ⟨_, rfl⟩
      have hvn : vn = nL := by
        obtain ⟨_, _, e', -⟩ := hsv
        cases e'; exact hnL
      subst hvn
      have hbs : bs.length ≤ 8192 := by obtain ⟨l0, _, h2, _⟩ := HI.out.ri; simp at h2; omega
      have hCk := CCheck_any day (.slice va vn vc) (Cm.lvs day 0 bs) wr hsv (by rw [Cm.lvs_len]; omega)
      obtain ⟨E, hE⟩ : ∃ E, Cm.chk day (Cm.lvs day 0 bs) = E := ⟨_, rfl⟩
      rw [hE] at hCk hz
      obtain ⟨ra, rk, hdR, -, -⟩ := hrd
      replace hdR : Duo wr R 72 (.slice ra 0 rk) (.int .i64 0) := hdR
      have x0 := hdR.cell0; have x1 := hdR.cell1; have xl := hdR.lt
      have y0 := hC.cell0; have y1 := hC.cell1; have yl := hC.lt
      have n1 : ¬ R = B := by have := HR.out; omega
      have n2 : ¬ B = R := by have := HR.out; omega
      have n3 : ¬ R = B + 1 := by have := HR.out; omega
      have HZ2 := Lib.hid hz; have HRes := Lib.hid hRes; have HSv := Lib.hid hsv; have HDR := Lib.hid hdR; have HC := Lib.hid hC; have HNL := Lib.hid hnL
      clear hI hz hC hRes hdR hsv hE hbs hnL
      go_wp2_with fail
      refine hCk.mono ?_; rintro e w2 ⟨rfl, hb2⟩
      have hbt2 := but_stp HI.out.bt hb2
      have d2 := HDR.out.stp hb2; have c2 := HC.out.stp hb2; have s2 := HSv.out.below hb2
      have res2 : Duo w2 B 24 (.int .i64 0) (.slice none 0 0) := HRes.out.stp hb2
      clear hCk x0 x1 xl y0 y1 yl
      have x0 := d2.cell0; have x1 := d2.cell1; have xl := d2.lt
      have y0 := c2.cell0; have y1 := c2.cell1; have yl := c2.lt
      have r0 := res2.cell0; have r1 := res2.cell1; have rl := res2.lt
      have f0 : w2.frozen? ⟨B, 0, none⟩ = false := res2.free 0
      have f1 : w2.frozen? ⟨B, 1, none⟩ = false := res2.free 1
      have f2 : w2.frozen? ⟨R, 1, none⟩ = false := d2.free 1
      have HBT2 := Lib.hid hbt2; have S2' := Lib.hid s2; have RES2 := Lib.hid res2
      clear hb2 hbt2 s2 res2 d2 c2
      by_cases h0 : E = 0
      · subst h0
        have hz3 : Z = .ok (day, Cm.lvs day 0 bs) := by rw [HZ2.out, if_pos rfl]
        have HZ3 := Lib.hid hz3
        clear hz3
        go_wp2_with fail
        refine bodyPost_ret (casc_none rfl rfl rfl ((RES2.out.set0 _).set1 _)) rfl ?_
        rw [HZ3.out]
        refine ⟨⟨va, vc, by rw [HNL.out]; rfl, by rw [HNL.out]; exact svs_set2 S2'.out RES2.out _ _⟩, ?_⟩
        exact Only.setCell (p := ⟨B, 1, none⟩) (Only.setCell (p := ⟨B, 0, none⟩) HBT2.out (.inr (by show w.heap.size ≤ B; rw [HB.out]; exact Nat.le_refl _)) _) (.inr (by show w.heap.size ≤ B; rw [HB.out]; exact Nat.le_refl _)) _
      · have hz3 : Z = .error 71 := by rw [HZ2.out, if_neg h0]
        have HZ3 := Lib.hid hz3
        clear hz3
        go_upto_region 10 with fail
        go_region
        go_wp2_with fail
        have hr3 : Duo (w2.setCell ⟨R, 1, none⟩ (.int .i64 71)) B 24 (.int .i64 0) (.slice none 0 0) := (Below.heap_setCell w2 ⟨R, 1, none⟩ _ B n2).trans RES2.out
        refine bodyPost_ret (casc_none rfl rfl rfl ((hr3.drew.set0 _).set1 _)) rfl ?_
        rw [HZ3.out]
        exact ⟨rfl, but_rest (but_set HBT2.out 1 _) HB.out _ _⟩
    | .ok (x :: l), HI, hrd =>
      have hk8 : k < 8192 := by have := HI.out.ri.room; rw [HI.out.bl] at this; exact this
      have hbtr : ButB R we wr := HBT.out.trans HI.out.bt
      have kwr := HKE.out.but HSL.out hbtr
      have hft : Fits (x :: l) := by obtain ⟨_, _, _, _, h⟩ := hrd; exact h
      have hwx := hft.2 x (by simp)
      have e1 : IntKind.i64.wrap ((k : Int) + 1) = (k : Int) + 1 := IntWalk.i64_in _ (by omega)
      have hN := nextO_any R (.ok (x :: l)) we wr Cm.asO (fun x vb vl hp hw => AsO_row x vb vl wr kwr hp hw) (by intro h; cases h) HSL.out hbtr hrd
      have hA := GetC_any k wr
      obtain ⟨b, hb⟩ : ∃ b, (Cm.nx Cm.asO [] (.ok (x :: l))).1 = b := ⟨_, rfl⟩
      obtain ⟨S2, hS2⟩ : ∃ S2, (Cm.nx Cm.asO [] (.ok (x :: l))).2 = S2 := ⟨_, rfl⟩
      have hbl : b.length ≤ 10000 := by rw [← hb]; exact nx_len (fun b h => asO_len h hwx)
      rw [hb, hS2] at hN
      have hrd2 := hrd
      obtain ⟨ra, rk, hdR, -, -⟩ := hrd2
      obtain ⟨nn, hnn⟩ : ∃ nn, (x :: l).length = nn := ⟨_, rfl⟩
      rw [hnn] at hdR
      have hn0 : (0 : Int) < (nn : Int) := by have : (x :: l).length = l.length + 1 := rfl; omega
      have x0 := hdR.cell0; have x1 := hdR.cell1; have xl := hdR.lt
      have Hb := Lib.hid hb; have HS2 := Lib.hid hS2; have HBL := Lib.hid hbl; have HRD := Lib.hid hrd
      clear hI hC hRes hdR hb hS2 hbl hft hwx hnn hbtr kwr hrd
      go_wp2_with fail
      refine hA.mono ?_; rintro e w1 ⟨rfl, rfl⟩
      clear hA
      go_wp2_with fail
      refine hN.mono ?_; rintro e w1 ⟨⟨v1, rfl, hr1⟩, hrd1, hb1⟩
      have hby := hr1.all_byte
      obtain ⟨av, cv, rfl⟩ := hr1.shape b.length rfl
      have hCl := Clone8_any _ b w1 hr1 (by have := HBL.out; omega)
      have HRD1 := Lib.hid hrd1; have HB1 := Lib.hid hb1; have HBY := Lib.hid hby
      clear hN hrd1 hb1 hby hr1 x0 x1 xl
      go_wp2_with fail
      refine hCl.mono ?_; rintro e w2 ⟨r, rfl, hown, hb2⟩
      obtain ⟨d2, o2, h82, res2, rd2, bt2, sz2⟩ := HI.out.read HR.out HB1.out HRD1.out hb2
      have hs12 : B + 2 ≤ w1.heap.size := Nat.le_trans HI.out.sz HB1.out.size
      have hown' := owns_low hown hs12
      obtain ⟨ab, cb, rfl⟩ := (Row.of_bytes hown HBY.out).shape b.length rfl
      obtain ⟨nb, hnb⟩ : ∃ nb, b.length = nb := ⟨_, rfl⟩
      obtain ⟨z, hz⟩ : ∃ z, Cm.sal day k = z := ⟨_, rfl⟩
      have hsalt : ∀ W' : World, Calls Tryz.prog 50 #[.int .i64 day, .int .i64 k] W' fun e w' => e = .returned (.int .i64 z) ∧ w' = W' := fun W' => salt_all day k z W' hz
      obtain ⟨i0, hinfo, hz0, hz1, hz2⟩ := info_parts info_sieve
      have hk9 : k + 1 ≤ 8192 := by omega
      rw [hnb] at hown' ⊢
      have e8 : IntKind.i64.wrap (8 * (nb : Int)) = 8 * (nb : Int) := IntWalk.i64_in _ (by have := HBL.out; omega)
      have y0 := d2.cell0; have y1 := d2.cell1; have yl := d2.lt
      have f0 : w2.frozen? ⟨B + 1, 0, none⟩ = false := d2.free 0
      have f1 : w2.frozen? ⟨B + 1, 1, none⟩ = false := d2.free 1
      have D2 := Lib.hid d2; have O2 := Lib.hid o2; have H82 := Lib.hid h82; have RES2 := Lib.hid res2; have RD2 := Lib.hid rd2; have BT2 := Lib.hid bt2; have SZ2 := Lib.hid sz2; have HOWN := Lib.hid hown'; have HNB := Lib.hid hnb; have HZS := Lib.hid hz; have HB2 := Lib.hid hb2
      clear hCl hown hb2 d2 o2 h82 res2 rd2 bt2 sz2 hown' hnb hz hs12
      go_upto_region 6 with fail
      go_region_law (first
        | (refine step_append_lies _ rfl (.tmp 35) (.tmp 44) 22 rfl (B + 2) 41 i0 (.agg #[.int .i64 0, .int .i64 0, .int .i64 0, .slice none 0 0]) 4 48 Tryz.underlying22 hinfo hz0 hz1 hz2 rfl (by decide) (.slice va vn vc) k (levelCells pre) rfl (owns_keep O2.out ((Below.refl w2.heap.size w2).alloc (Nat.le_refl _) _).drew) ⟨w2.heap.size, 0, none⟩ 1 1 [.int .i64 (8 * (nb : Int)), .int .i64 3, .int .i64 z, .slice ab nb cb] rfl rfl (cells_new4 w2 _ _) (by intro u hu; simp at hu; rcases hu with rfl | rfl | rfl | rfl <;> rfl) (by decide) (by unfold maxLen; omega) (by omega) (by have := SZ2.out; simp; omega) _ rfl ?_
           intro g5 c5 w5 own5 hgrow hat hlt5
           have d5 : Duo w5 (B + 1) 24 (.int .i64 day) (.slice va vn vc) := (hgrow.block (B + 1) (by have := D2.out.lt; simp; omega) (fun e => by have := World.ownsRow.lt O2.out (B + 1) e.symm; omega)).trans ((((Below.refl w2.heap.size w2).alloc (Nat.le_refl _) _).drew.block (B + 1) D2.out.lt).trans D2.out)
           have y1' := d5.cell1; have g1' : w5.frozen? ⟨B + 1, 1, none⟩ = false := d5.free 1; have l5' := d5.lt)
        | (go_simp; go_at_call 50; refine (hsalt _).mono ?_; rintro e w' ⟨rfl, rfl⟩)
        | fail)
      all_goals
        go_wp2_with fail
        go_roundw
        case rel =>
          refine ⟨k + 1, S2, pre ++ [⟨k, Cm.lvOf day k b, .slice ab nb cb, 0⟩], .slice (some ⟨g5, 0, none⟩) (k + 1) c5, bs ++ [b], by go_num, ?_⟩
          have := HI.out.step (v' := .slice (some ⟨g5, 0, none⟩) (k + 1) c5) (rb := .slice ab nb cb) (b := b) rfl HR.out HB.out Hb.out.symm D2.out H82.out RES2.out (by rw [HS2.out]; exact RD2.out) BT2.out SZ2.out O2.out (by rw [HNB.out]; exact HOWN.out) HBY.out (((Below.refl w2.heap.size w2).alloc (Nat.le_refl _) _).drew) hgrow (by rw [HNB.out, HZS.out]; exact own5)
          rw [HS2.out] at this
          exact this
        case measure => simp [intOf]; omega
end Go.Proofs.YtfdchdnkblmijaaGreatDoor
