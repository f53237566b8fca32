/-
  The walk of DerTells: of any item what it is. (Printed by wip/gen_tells.py.)
-/
import Derived.Test.YtpmiihmhfagfoaaDoorR5
import Derived.Test.YtpmiihmhfagfoaaDoorRs7
import Derived.Test.YtpmiihmhfagfoaaDoorEi
import Derived.Test.YtpmiihmhfagfoaaDoorEw
namespace Go.Proofs.YtpmiihmhfagfoaaDoor
open Go.RowKit

/-- What holds of an item's box, and of the item. -/
structure S8 (w V : World) (x : Dm.It) (ab : Option Addr) (nb cb : Nat) (al : Option Addr) (nl cl : Nat) : Prop where
  k : KindsAt V
  b : Below w.heap.size w V
  t : Trip V w.heap.size 25 (.int .i64 x.tag) (.slice ab nb cb) (.slice al nl cl)
  p : ItP V (.slice ab nb cb) (.slice al nl cl) x
theorem S8.stp {w V V' : World} {x : Dm.It} {ab : Option Addr} {nb cb : Nat} {al : Option Addr} {nl cl : Nat} (h : S8 w V x ab nb cb al nl cl) (hb : Below V.heap.size V V') : S8 w V' x ab nb cb al nl cl :=
  ⟨h.k.below hb, h.b.trans (hb.mono h.b.size), trip_stp h.t hb, h.p.below hb⟩

set_option maxRecDepth 100000 in
set_option maxHeartbeats 4000000 in
theorem DerTells_any (v : Value) (x : Dm.It) (w : World) (hk : KindsAt w) (hx : ItV w v x) (hw : Dm.wt x ≤ 1048576) :
    Calls Tryd.prog 10 #[v] w fun e w' => e = .returned (.bool true) ∧ Below w.heap.size w w' := by
  obtain ⟨ab, cb, al, cl, rfl, hp⟩ := hx.parts
  obtain ⟨nb, hnb⟩ : ∃ n, x.b.length = n := ⟨_, rfl⟩
  obtain ⟨nl, hnl⟩ : ∃ n, x.l.length = n := ⟨_, rfl⟩
  rw [hnb, hnl] at hp ⊢
  have st0 : S8 w (w.alloc (.cells #[.int .i64 x.tag, .slice ab nb cb, .slice al nl cl] 25)) x ab nb cb al nl cl :=
    ⟨hk.alloc _, (Below.refl w.heap.size w).alloc (Nat.le_refl _) _, Trip.new w _ _ _ _, hp.alloc _⟩
  have hC1 := live07_true _ st0.k
  have hwts := Dm.wt_eq x
  have hlen := Dm.wts_len x.l
  have hsl : (seqV x).length ≤ 1000000 := by
    unfold seqV
    split
    · omega
    · simp
  obtain ⟨iv, hiv⟩ : ∃ i, intV x = i := ⟨_, rfl⟩
  obtain ⟨tv, htv⟩ : ∃ i, textV x = i := ⟨_, rfl⟩
  obtain ⟨bv, hbv⟩ : ∃ i, boolV x = i := ⟨_, rfl⟩
  obtain ⟨ov, hov⟩ : ∃ i, octV x = i := ⟨_, rfl⟩
  obtain ⟨sv, hsv⟩ : ∃ i, seqV x = i := ⟨_, rfl⟩
  obtain ⟨E1, hE1⟩ : ∃ i, asE x 1 = i := ⟨_, rfl⟩
  obtain ⟨E2, hE2⟩ : ∃ i, asE x 2 = i := ⟨_, rfl⟩
  obtain ⟨E4, hE4⟩ : ∃ i, asE x 4 = i := ⟨_, rfl⟩
  obtain ⟨E12, hE12⟩ : ∃ i, asE x 12 = i := ⟨_, rfl⟩
  obtain ⟨E48, hE48⟩ : ∃ i, asE x 48 = i := ⟨_, rfl⟩
  rw [hsv] at hsl
  have HV1 := Lib.hid hiv; have HV2 := Lib.hid htv; have HV3 := Lib.hid hbv; have HV4 := Lib.hid hov; have HV5 := Lib.hid hsv
  have HE1 := Lib.hid hE1; have HE2 := Lib.hid hE2; have HE4 := Lib.hid hE4; have HE12 := Lib.hid hE12; have HE48 := Lib.hid hE48
  have ST := Lib.hid st0; have HSL := Lib.hid hsl
  clear hk hp hx hnb hnl st0 hiv htv hbv hov hsv hE1 hE2 hE4 hE12 hE48 hwts hlen hsl
  go_enter Tryd.func10, Tryd.ntmps10
  go_wp2_with fail
  refine hC1.mono ?_; rintro e w1 ⟨rfl, hb⟩
  have st1 := ST.out.stp hb
  have c0 := st1.t.cell0; have c1' := st1.t.cell1; have c2' := st1.t.cell2
  have hC2 := Few_any x _ _ w1 st1.p (by omega)
  clear hC1 hb ST
  have ST := Lib.hid st1
  clear st1
  by_cases hfew : Dm.wt x ≤ 9000
  case neg =>
    rw [decide_eq_false hfew] at hC2
    go_wp2_with fail
    refine hC2.mono ?_; rintro e w2 ⟨rfl, hb⟩
    clear hC2
    have st2 := ST.out.stp hb
    have hB2 := st2.b
    clear st2
    go_wp2_with fail
    go_ret
    exact ⟨rfl, hB2⟩
  rw [decide_eq_true hfew] at hC2
  go_wp2_with fail
  refine hC2.mono ?_; rintro e w2 ⟨rfl, hb⟩
  have st2 := ST.out.stp hb
  clear hC2 hb ST
  have c0 := st2.t.cell0; have c1' := st2.t.cell1; have c2' := st2.t.cell2
  have hC := AsInt_val x _ _ w2 st2.k st2.p (by omega)
  rw [HV1.out, HE2.out] at hC
  have ST2 := Lib.hid st2
  clear st2
  go_wp2_with fail
  refine hC.mono ?_; rintro e w3 ⟨rfl, hb⟩
  have st3 := ST2.out.stp hb
  clear hC hb ST2
  have c0 := st3.t.cell0; have c1' := st3.t.cell1; have c2' := st3.t.cell2
  have hC := rAsInt_val x _ _ w3 st3.p (by omega)
  rw [HV1.out, HE2.out] at hC
  have ST3 := Lib.hid st3
  clear st3
  go_wp2_with fail
  refine hC.mono ?_; rintro e w4 ⟨rfl, hb⟩
  have st4 := ST3.out.stp hb
  clear hC hb ST3
  have c0 := st4.t.cell0; have c1' := st4.t.cell1; have c2' := st4.t.cell2
  have hC := AsText_val x _ _ w4 st4.k st4.p (by omega)
  rw [HV2.out, HE12.out] at hC
  have ST4 := Lib.hid st4
  clear st4
  go_wp2_with fail
  refine hC.mono ?_; rintro e w5 ⟨rfl, hb⟩
  have st5 := ST4.out.stp hb
  clear hC hb ST4
  have c0 := st5.t.cell0; have c1' := st5.t.cell1; have c2' := st5.t.cell2
  have hC := rAsText_val x _ _ w5 st5.p (by omega)
  rw [HV2.out, HE12.out] at hC
  have ST5 := Lib.hid st5
  clear st5
  go_wp2_with fail
  refine hC.mono ?_; rintro e w6 ⟨rfl, hb⟩
  have st6 := ST5.out.stp hb
  clear hC hb ST5
  have c0 := st6.t.cell0; have c1' := st6.t.cell1; have c2' := st6.t.cell2
  have hC := AsOct_val x _ _ w6 st6.k st6.p (by omega)
  simp only [HE4.out, HV4.out] at hC
  have ST6 := Lib.hid st6
  clear st6
  go_wp2_with fail
  refine hC.mono ?_; rintro e w7 ⟨⟨a_o1, c_o1, rfl, f_o1⟩, hb⟩
  have st7 := ST6.out.stp hb
  clear hC hb ST6
  have F_o1 := Lib.hid f_o1
  clear f_o1
  have c0 := st7.t.cell0; have c1' := st7.t.cell1; have c2' := st7.t.cell2
  have hC := rAsOct_val x _ _ w7 st7.p (by omega)
  simp only [HE4.out, HV4.out] at hC
  have ST7 := Lib.hid st7
  clear st7
  go_wp2_with fail
  refine hC.mono ?_; rintro e w8 ⟨⟨a_o2, c_o2, rfl, f_o2⟩, hb⟩
  have st8 := ST7.out.stp hb
  have f_o1 := F_o1.out.below hb
  clear hC hb ST7 F_o1
  have F_o1 := Lib.hid f_o1
  clear f_o1
  have F_o2 := Lib.hid f_o2
  clear f_o2
  have c0 := st8.t.cell0; have c1' := st8.t.cell1; have c2' := st8.t.cell2
  have hC := AsBool_val x _ _ w8 st8.k st8.p (by omega)
  rw [HV3.out, HE1.out] at hC
  have ST8 := Lib.hid st8
  clear st8
  go_wp2_with fail
  refine hC.mono ?_; rintro e w9 ⟨rfl, hb⟩
  have st9 := ST8.out.stp hb
  have f_o1 := F_o1.out.below hb
  have f_o2 := F_o2.out.below hb
  clear hC hb ST8 F_o1 F_o2
  have F_o1 := Lib.hid f_o1
  clear f_o1
  have F_o2 := Lib.hid f_o2
  clear f_o2
  have c0 := st9.t.cell0; have c1' := st9.t.cell1; have c2' := st9.t.cell2
  have hC := rAsBool_val x _ _ w9 st9.p (by omega)
  rw [HV3.out, HE1.out] at hC
  have ST9 := Lib.hid st9
  clear st9
  go_wp2_with fail
  refine hC.mono ?_; rintro e w10 ⟨rfl, hb⟩
  have st10 := ST9.out.stp hb
  have f_o1 := F_o1.out.below hb
  have f_o2 := F_o2.out.below hb
  clear hC hb ST9 F_o1 F_o2
  have F_o1 := Lib.hid f_o1
  clear f_o1
  have F_o2 := Lib.hid f_o2
  clear f_o2
  have c0 := st10.t.cell0; have c1' := st10.t.cell1; have c2' := st10.t.cell2
  have hC := AsSeq_val x _ _ w10 st10.k st10.p (by omega)
  simp only [HE48.out, HV5.out] at hC
  have ST10 := Lib.hid st10
  clear st10
  go_wp2_with fail
  refine hC.mono ?_; rintro e w11 ⟨⟨a_s1, c_s1, rfl, f_s1⟩, hb⟩
  have st11 := ST10.out.stp hb
  have f_o1 := F_o1.out.below hb
  have f_o2 := F_o2.out.below hb
  clear hC hb ST10 F_o1 F_o2
  have F_o1 := Lib.hid f_o1
  clear f_o1
  have F_o2 := Lib.hid f_o2
  clear f_o2
  have F_s1 := Lib.hid f_s1
  clear f_s1
  have c0 := st11.t.cell0; have c1' := st11.t.cell1; have c2' := st11.t.cell2
  have hC := rAsSeq_val x _ _ w11 st11.p (by omega)
  simp only [HE48.out, HV5.out] at hC
  have ST11 := Lib.hid st11
  clear st11
  go_wp2_with fail
  refine hC.mono ?_; rintro e w12 ⟨⟨a_s2, c_s2, rfl, f_s2⟩, hb⟩
  have st12 := ST11.out.stp hb
  have f_o1 := F_o1.out.below hb
  have f_o2 := F_o2.out.below hb
  have f_s1 := F_s1.out.below hb
  clear hC hb ST11 F_o1 F_o2 F_s1
  have F_o1 := Lib.hid f_o1
  clear f_o1
  have F_o2 := Lib.hid f_o2
  clear f_o2
  have F_s1 := Lib.hid f_s1
  clear f_s1
  have F_s2 := Lib.hid f_s2
  clear f_s2
  have hC := rSeq_mk _ sv w12 F_s1.out HSL.out
  have ST12 := Lib.hid st12
  clear st12 c0 c1' c2'
  go_wp2_with fail
  refine hC.mono ?_; rintro e w13 ⟨⟨a1, c1, rfl, g1⟩, hb⟩
  have st13 := ST12.out.stp hb
  have hC2 := rSeq_mk _ sv w13 (F_s2.out.below hb) HSL.out
  have f_o1 := F_o1.out.below hb; have f_o2 := F_o2.out.below hb
  clear hC hb ST12 F_o1 F_o2 F_s1 F_s2
  have G1 := Lib.hid g1; have F_o1 := Lib.hid f_o1; have F_o2 := Lib.hid f_o2; have ST13 := Lib.hid st13
  clear g1 f_o1 f_o2 st13
  go_wp2_with fail
  refine hC2.mono ?_; rintro e w14 ⟨⟨a2, c2, rfl, g2⟩, hb⟩
  have st14 := ST13.out.stp hb
  have hC3 := RSame_any (.mk 48 [] sv) (.mk 48 [] sv) w14 _ _ _ _ (G1.out.below hb) g2
  rw [(Dm.eqIt_iff _ _).2 rfl] at hC3
  have hC4 : Calls Tryd.prog 18 #[.agg #[.int .i64 48, .slice none 0 0, .slice a1 sv.length c1], .agg #[.int .i64 48, .slice none 0 0, .slice a2 sv.length c2]] w14 fun e w' => e = .returned (.bool true) ∧ Below w14.heap.size w14 w' := hC3
  have f_o1 := F_o1.out.below hb; have f_o2 := F_o2.out.below hb
  clear hC2 hC3 hb ST13 F_o1 F_o2 g2 G1
  have F_o1 := Lib.hid f_o1; have F_o2 := Lib.hid f_o2; have ST14 := Lib.hid st14
  clear f_o1 f_o2 st14
  go_wp2_with fail
  refine hC4.mono ?_; rintro e wz ⟨rfl, hb⟩
  have hB := (ST14.out.stp hb).b
  have k1 := (F_o1.out.below hb).convert
  have k2 := (F_o2.out.below hb).convert
  obtain ⟨S, hS⟩ : ∃ S, strOfNums ov = S := ⟨_, rfl⟩
  rw [hS] at k1 k2
  clear hC4 hb hS
  go_wp2_with fail
  go_ret
  exact ⟨rfl, hB⟩
end Go.Proofs.YtpmiihmhfagfoaaDoor
