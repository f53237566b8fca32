/-
  The walk over (*cascade.reader).rest as cascade.Apply calls it. (Printed by wip/gen_rest.py.)
-/
import Derived.Test.YtfdchdnkblmijaaGreatDoorKp
namespace Go.Proofs.YtfdchdnkblmijaaGreatDoor
open Go.RowKit

theorem asA_len {xs : List Sm.Sv} {i : Nat} {x : Dm.It} {b : List Int} (h : Cm.asA xs i x = .ok b) (hw : Dm.wt x ≤ 10000) (hf : Cm.Few 1024 xs) : b.length ≤ 10000 := by
  unfold Cm.asA at h
  split at h
  · split at h
    · split at h
      · next hi =>
        cases h
        rw [List.getElem?_eq_getElem hi.2]
        have := hf _ (List.getElem_mem hi.2)
        show (xs[i]).b.length ≤ 10000
        omega
      · cases h
    · cases h
  · exact asO_len h hw

set_option maxRecDepth 100000 in
set_option maxHeartbeats 4000000 in
theorem restA_any (day : Int) (R : Nat) (S : Except Int (List Dm.It)) (we w : World) (A : Nat) (xs : List Sm.Sv) (da : Int) (hAR : A ≠ R) (hA : AtA we A da xs) (hfew : Cm.Few 1024 xs) (hke : KindsAt we) (hsl : Slim we R) (hbt : ButB R we w) (h : RdR we w R S) :
    Calls Tryz.prog 29 #[.pointer (some ⟨R, 0, none⟩), .int .i64 day, .func (.func 42) #[] #[.pointer (some ⟨A, 0, none⟩)]] w fun e w' => CascR w' e (Cm.restS (Cm.asA xs) day S) ∧ ButB R w w' := by
  obtain ⟨B, hB⟩ : ∃ B, w.heap.size = B := ⟨_, rfl⟩
  have hR : R < B := by rw [← hB]; exact h.lt
  obtain ⟨Z, hZ⟩ : ∃ Z, Cm.restS (Cm.asA xs) day S = Z := ⟨_, rfl⟩
  rw [hZ]
  have q0 := (Duo.new w 24 (.int .i64 0) (.slice none 0 0)).alloc (.cells #[.int .i64 day, .slice none 0 0] 24)
  have q1 := Duo.new (w.alloc (.cells #[.int .i64 0, .slice none 0 0] 24)) 24 (.int .i64 day) (.slice none 0 0)
  have hb0 := ((Below.refl w.heap.size w).alloc (Nat.le_refl _) (.cells #[.int .i64 0, .slice none 0 0] 24)).alloc (by simp) (.cells #[.int .i64 day, .slice none 0 0] 24)
  have hsz : ((w.alloc (.cells #[.int .i64 0, .slice none 0 0] 24)).alloc (.cells #[.int .i64 day, .slice none 0 0] 24)).heap.size = B + 2 := by simp [hB]
  rw [World.size_alloc] at q1
  obtain ⟨W, hW⟩ : ∃ W, (w.alloc (.cells #[.int .i64 0, .slice none 0 0] 24)).alloc (.cells #[.int .i64 day, .slice none 0 0] 24) = W := ⟨_, rfl⟩
  rw [hW] at q0 q1 hb0 hsz
  rw [hB] at q0 q1
  have hI0 : RstI (Cm.asA xs) day R B S we w W 0 S [] (.slice none 0 0) [] :=
    ⟨rfl, q1, World.ownsRow_nil _ _ _ _, (fun x hx => by cases hx), rfl, rfl, Cm.RestI.start (fun l hl => by rw [hl] at h; obtain ⟨_, _, _, _, hf⟩ := h; exact hf.1), q0, h.moved (hb0.block R h.lt), but_of hb0, by rw [hsz]; exact Nat.le_refl _⟩
  have HI0 := Lib.hid hI0; have HW := Lib.hid hW; have HB := Lib.hid hB; have HZ := Lib.hid hZ; have HR := Lib.hid hR; have HKE := Lib.hid hke; have HSL := Lib.hid hsl; have HBT := Lib.hid hbt; have HA := Lib.hid hA; have HAR := Lib.hid hAR; have HFEW := Lib.hid hfew
  clear hI0 hW hB hZ hR hke hsl hbt hb0 hsz q0 q1 h hA hAR hfew
  go_enter Tryz.func29, Tryz.ntmps29
  go_wp2_with fail
  rw [HW.out, HB.out]
  go_loopw [9, 10] (fun i _ wr => ∃ (k : Nat) (S' : Except Int (List Dm.It)) (pre : List Lvl) (v : Value) (bs : List (List Int)), i = .int .i64 k ∧ RstI (Cm.asA xs) day R B S we w wr k S' pre v bs) (fun i _ _ => 8193 - (intOf i).toNat)
  case atStart => exact ⟨0, S, [], _, [], rfl, HI0.out⟩
  case round =>
    obtain ⟨k, S', pre, v, bs, rfl, hI⟩ := hrel
    have k0 : (0 : Int) ≤ (k : Int) := by omega
    have HI := Lib.hid hI
    have hrd := hI.rd
    have hC := hI.c
    have hRes := hI.res
    obtain ⟨va, vn, vc, rfl⟩ := owns_slice hI.own
    match S', HI, hrd with
    | .error cc, HI, hrd =>
      have hri := HI.out.ri
      have hz : Z = .error cc := by rw [← HZ.out]; exact hri
      obtain ⟨hc0, ra, rn, rk, hdR⟩ := hrd
      have c1 := hdR.cell1
      have r0 := hRes.cell0; have r1 := hRes.cell1; have f0 := hRes.free 0; have f1 := hRes.free 1
      have HZ2 := Lib.hid hz; have HRes := Lib.hid hRes
      have n1 : ¬ R = B := by have := HR.out; omega
      have n2 : ¬ B = R := by have := HR.out; omega
      clear hI hri hz hC hRes hdR
      go_upto_region 10 with fail
      go_region
      go_wp2_with fail
      refine bodyPost_ret (casc_none rfl rfl rfl ((HRes.out.drew.set0 _).set1 _)) rfl ?_
      rw [HZ2.out]
      exact ⟨rfl, but_rest HI.out.bt HB.out _ _⟩
    | .ok [], HI, hrd =>
      have hz := HZ.out.symm.trans HI.out.ri.done
      have hsv : Svs wr (.slice va vn vc) (Cm.lvs day 0 bs) := by
        rw [← HI.out.lv]
        exact svs_of (by rw [HI.out.len]; exact HI.out.own) HI.out.own8
      obtain ⟨nL, hnL⟩ : ∃ nL, (Cm.lvs day 0 bs).length = nL := ⟨_, rfl⟩
      have hvn : vn = nL := by
        obtain ⟨_, _, e', -⟩ := hsv
        cases e'; exact hnL
      subst hvn
      have hbs : bs.length ≤ 8192 := by obtain ⟨l0, _, h2, _⟩ := HI.out.ri; simp at h2; omega
      have hCk := CCheck_any day (.slice va vn vc) (Cm.lvs day 0 bs) wr hsv (by rw [Cm.lvs_len]; omega)
      obtain ⟨E, hE⟩ : ∃ E, Cm.chk day (Cm.lvs day 0 bs) = E := ⟨_, rfl⟩
      rw [hE] at hCk hz
      obtain ⟨ra, rk, hdR, -, -⟩ := hrd
      replace hdR : Duo wr R 72 (.slice ra 0 rk) (.int .i64 0) := hdR
      have x0 := hdR.cell0; have x1 := hdR.cell1; have xl := hdR.lt
      have y0 := hC.cell0; have y1 := hC.cell1; have yl := hC.lt
      have n1 : ¬ R = B := by have := HR.out; omega
      have n2 : ¬ B = R := by have := HR.out; omega
      have n3 : ¬ R = B + 1 := by have := HR.out; omega
      have HZ2 := Lib.hid hz; have HRes := Lib.hid hRes; have HSv := Lib.hid hsv; have HDR := Lib.hid hdR; have HC := Lib.hid hC; have HNL := Lib.hid hnL
      clear hI hz hC hRes hdR hsv hE hbs hnL
      go_wp2_with fail
      refine hCk.mono ?_; rintro e w2 ⟨rfl, hb2⟩
      have hbt2 := but_stp HI.out.bt hb2
      have d2 := HDR.out.stp hb2; have c2 := HC.out.stp hb2; have s2 := HSv.out.below hb2
      have res2 : Duo w2 B 24 (.int .i64 0) (.slice none 0 0) := HRes.out.stp hb2
      clear hCk x0 x1 xl y0 y1 yl
      have x0 := d2.cell0; have x1 := d2.cell1; have xl := d2.lt
      have y0 := c2.cell0; have y1 := c2.cell1; have yl := c2.lt
      have r0 := res2.cell0; have r1 := res2.cell1; have rl := res2.lt
      have f0 : w2.frozen? ⟨B, 0, none⟩ = false := res2.free 0
      have f1 : w2.frozen? ⟨B, 1, none⟩ = false := res2.free 1
      have f2 : w2.frozen? ⟨R, 1, none⟩ = false := d2.free 1
      have HBT2 := Lib.hid hbt2; have S2' := Lib.hid s2; have RES2 := Lib.hid res2
      clear hb2 hbt2 s2 res2 d2 c2
      by_cases h0 : E = 0
      · subst h0
        have hz3 : Z = .ok (day, Cm.lvs day 0 bs) := by rw [HZ2.out, if_pos rfl]
        have HZ3 := Lib.hid hz3
        clear hz3
        go_wp2_with fail
        refine bodyPost_ret (casc_none rfl rfl rfl ((RES2.out.set0 _).set1 _)) rfl ?_
        rw [HZ3.out]
        refine ⟨⟨va, vc, by rw [HNL.out]; rfl, by rw [HNL.out]; exact svs_set2 S2'.out RES2.out _ _⟩, ?_⟩
        exact Only.setCell (p := ⟨B, 1, none⟩) (Only.setCell (p := ⟨B, 0, none⟩) HBT2.out (.inr (by show w.heap.size ≤ B; rw [HB.out]; exact Nat.le_refl _)) _) (.inr (by show w.heap.size ≤ B; rw [HB.out]; exact Nat.le_refl _)) _
      · have hz3 : Z = .error 71 := by rw [HZ2.out, if_neg h0]
        have HZ3 := Lib.hid hz3
        clear hz3
        go_upto_region 10 with fail
        go_region
        go_wp2_with fail
        have hr3 : Duo (w2.setCell ⟨R, 1, none⟩ (.int .i64 71)) B 24 (.int .i64 0) (.slice none 0 0) := (Below.heap_setCell w2 ⟨R, 1, none⟩ _ B n2).trans RES2.out
        refine bodyPost_ret (casc_none rfl rfl rfl ((hr3.drew.set0 _).set1 _)) rfl ?_
        rw [HZ3.out]
        exact ⟨rfl, but_rest (but_set HBT2.out 1 _) HB.out _ _⟩
    | .ok (x :: l), HI, hrd =>
      have hk8 : k < 8192 := by have := HI.out.ri.room; rw [HI.out.bl] at this; exact this
      have hbtr : ButB R we wr := HBT.out.trans HI.out.bt
      have kwr := HKE.out.but HSL.out hbtr
      have hft : Fits (x :: l) := by obtain ⟨_, _, _, _, h⟩ := hrd; exact h
      have hwx := hft.2 x (by simp)
      have e1 : IntKind.i64.wrap ((k : Int) + 1) = (k : Int) + 1 := IntWalk.i64_in _ (by omega)
      have hbA : Below wr.heap.size wr (wr.alloc (.cells #[.int .i64 k] 3)) := (Below.refl _ wr).alloc (Nat.le_refl _) _
      have hN := nextA_any R (.ok (x :: l)) we (wr.alloc (.cells #[.int .i64 k] 3)) wr.heap.size A (Cm.asA xs k) (fun x vb vl hp hw => ApIn_any k x vb vl wr.heap.size A da xs _ (kwr.below hbA) (Boxed.new wr _ _) ((HA.out.but HAR.out HSL.out hbtr).below hbA) hp hw (by omega)) (by intro h; cases h) HSL.out (but_stp hbtr hbA) (hrd.moved (hbA.block R hrd.lt))
      have hA := ApC_any k A wr
      obtain ⟨b, hb⟩ : ∃ b, (Cm.nx (Cm.asA xs k) [] (.ok (x :: l))).1 = b := ⟨_, rfl⟩
      obtain ⟨S2, hS2⟩ : ∃ S2, (Cm.nx (Cm.asA xs k) [] (.ok (x :: l))).2 = S2 := ⟨_, rfl⟩
      have hbl : b.length ≤ 10000 := by rw [← hb]; exact nx_len (fun b h => asA_len h hwx HFEW.out)
      rw [hb, hS2] at hN
      have hrd2 := hrd
      obtain ⟨ra, rk, hdR, -, -⟩ := hrd2
      obtain ⟨nn, hnn⟩ : ∃ nn, (x :: l).length = nn := ⟨_, rfl⟩
      rw [hnn] at hdR
      have hn0 : (0 : Int) < (nn : Int) := by have : (x :: l).length = l.length + 1 := rfl; omega
      have x0 := hdR.cell0; have x1 := hdR.cell1; have xl := hdR.lt
      have Hb := Lib.hid hb; have HS2 := Lib.hid hS2; have HBL := Lib.hid hbl; have HRD := Lib.hid hrd
      clear hI hC hRes hdR hb hS2 hbl hft hwx hnn hbtr kwr hrd
      go_wp2_with fail
      refine hA.mono ?_; rintro e w1 ⟨rfl, rfl⟩
      clear hA hbA
      go_wp2_with fail
      refine hN.mono ?_; rintro e w1 ⟨⟨v1, rfl, hr1⟩, hrd1, hb1⟩
      have hby := hr1.all_byte
      obtain ⟨av, cv, rfl⟩ := hr1.shape b.length rfl
      have hCl := Clone8_any _ b w1 hr1 (by have := HBL.out; omega)
      have HRD1 := Lib.hid hrd1; have HB1 := Lib.hid hb1; have HBY := Lib.hid hby
      clear hN hrd1 hb1 hby hr1 x0 x1 xl
      go_wp2_with fail
      refine hCl.mono ?_; rintro e w2 ⟨r, rfl, hown, hb2⟩
      obtain ⟨d2, o2, h82, res2, rd2, bt2, sz2⟩ := HI.out.read HR.out ((but_of ((Below.refl _ wr).alloc (Nat.le_refl _) _)).trans HB1.out) HRD1.out hb2
      have hs12 : B + 2 ≤ w1.heap.size := Nat.le_trans HI.out.sz (Nat.le_trans (by simp) HB1.out.size)
      have hown' := owns_low hown hs12
      obtain ⟨ab, cb, rfl⟩ := (Row.of_bytes hown HBY.out).shape b.length rfl
      obtain ⟨nb, hnb⟩ : ∃ nb, b.length = nb := ⟨_, rfl⟩
      obtain ⟨z, hz⟩ : ∃ z, Cm.sal day k = z := ⟨_, rfl⟩
      have hsalt : ∀ W' : World, Calls Tryz.prog 50 #[.int .i64 day, .int .i64 k] W' fun e w' => e = .returned (.int .i64 z) ∧ w' = W' := fun W' => salt_all day k z W' hz
      obtain ⟨i0, hinfo, hz0, hz1, hz2⟩ := info_parts info_sieve
      have hk9 : k + 1 ≤ 8192 := by omega
      rw [hnb] at hown' ⊢
      have e8 : IntKind.i64.wrap (8 * (nb : Int)) = 8 * (nb : Int) := IntWalk.i64_in _ (by have := HBL.out; omega)
      have y0 := d2.cell0; have y1 := d2.cell1; have yl := d2.lt
      have f0 : w2.frozen? ⟨B + 1, 0, none⟩ = false := d2.free 0
      have f1 : w2.frozen? ⟨B + 1, 1, none⟩ = false := d2.free 1
      have D2 := Lib.hid d2; have O2 := Lib.hid o2; have H82 := Lib.hid h82; have RES2 := Lib.hid res2; have RD2 := Lib.hid rd2; have BT2 := Lib.hid bt2; have SZ2 := Lib.hid sz2; have HOWN := Lib.hid hown'; have HNB := Lib.hid hnb; have HZS := Lib.hid hz; have HB2 := Lib.hid hb2
      clear hCl hown hb2 d2 o2 h82 res2 rd2 bt2 sz2 hown' hnb hz hs12
      go_upto_region 6 with fail
      go_region_law (first
        | (refine step_append_lies _ rfl (.tmp 35) (.tmp 44) 22 rfl (B + 2) 41 i0 (.agg #[.int .i64 0, .int .i64 0, .int .i64 0, .slice none 0 0]) 4 48 Tryz.underlying22 hinfo hz0 hz1 hz2 rfl (by decide) (.slice va vn vc) k (levelCells pre) rfl (owns_keep O2.out ((Below.refl w2.heap.size w2).alloc (Nat.le_refl _) _).drew) ⟨w2.heap.size, 0, none⟩ 1 1 [.int .i64 (8 * (nb : Int)), .int .i64 3, .int .i64 z, .slice ab nb cb] rfl rfl (cells_new4 w2 _ _) (by intro u hu; simp at hu; rcases hu with rfl | rfl | rfl | rfl <;> rfl) (by decide) (by unfold maxLen; omega) (by omega) (by have := SZ2.out; simp; omega) _ rfl ?_
           intro g5 c5 w5 own5 hgrow hat hlt5
           have d5 : Duo w5 (B + 1) 24 (.int .i64 day) (.slice va vn vc) := (hgrow.block (B + 1) (by have := D2.out.lt; simp; omega) (fun e => by have := World.ownsRow.lt O2.out (B + 1) e.symm; omega)).trans ((((Below.refl w2.heap.size w2).alloc (Nat.le_refl _) _).drew.block (B + 1) D2.out.lt).trans D2.out)
           have y1' := d5.cell1; have g1' : w5.frozen? ⟨B + 1, 1, none⟩ = false := d5.free 1; have l5' := d5.lt)
        | (go_simp; go_at_call 50; refine (hsalt _).mono ?_; rintro e w' ⟨rfl, rfl⟩)
        | fail)
      all_goals
        go_wp2_with fail
        go_roundw
        case rel =>
          refine ⟨k + 1, S2, pre ++ [⟨k, Cm.lvOf day k b, .slice ab nb cb, 0⟩], .slice (some ⟨g5, 0, none⟩) (k + 1) c5, bs ++ [b], by go_num, ?_⟩
          have := HI.out.step (v' := .slice (some ⟨g5, 0, none⟩) (k + 1) c5) (rb := .slice ab nb cb) (b := b) rfl HR.out HB.out Hb.out.symm D2.out H82.out RES2.out (by rw [HS2.out]; exact RD2.out) BT2.out SZ2.out O2.out (by rw [HNB.out]; exact HOWN.out) HBY.out (((Below.refl w2.heap.size w2).alloc (Nat.le_refl _) _).drew) hgrow (by rw [HNB.out, HZS.out]; exact own5)
          rw [HS2.out] at this
          exact this
        case measure => simp [intOf]; omega
end Go.Proofs.YtfdchdnkblmijaaGreatDoor
