/-
  Walks over cascade.Get and cascade.Apply.
-/
import Derived.Test.YtfdchdnkblmijaaGreatDoorKp
import Derived.Test.YtfdchdnkblmijaaGreatDoorKq
namespace Go.Proofs.YtfdchdnkblmijaaGreatDoor
open Go.RowKit

theorem duo_casc2 {W : World} {B : Nat} {x y : Value} (hd : Duo W B 24 x y) (u v : Value) : Duo ((W.setCell ⟨B, 0, none⟩ u).setCell ⟨B, 1, none⟩ v) B 24 u v := (hd.set0 u).set1 v

set_option maxRecDepth 100000 in
set_option maxHeartbeats 2000000 in
theorem CGet_any (v : Value) (l : List Int) (w : World) (hk : KindsAt w) (h : Row .u8 w v l) (hl : l.length ≤ 1000000) :
    Calls Tryz.prog 8 #[v] w fun e w' => CascR w' e (Cm.get l) ∧ Below w.heap.size w w' := by
  obtain ⟨a, c, rfl⟩ := h.shape l.length rfl
  obtain ⟨n, hn⟩ : ∃ n, l.length = n := ⟨_, rfl⟩
  rw [hn] at h hl ⊢
  obtain ⟨B, hB⟩ : ∃ B, w.heap.size = B := ⟨_, rfl⟩
  have q0 := Duo.new w 24 (.int .i64 0) (.slice none 0 0)
  have hb0 := (Below.refl w.heap.size w).alloc (Nat.le_refl _) (.cells #[.int .i64 0, .slice none 0 0] 24)
  obtain ⟨W, hW⟩ : ∃ W, w.alloc (.cells #[.int .i64 0, .slice none 0 0] 24) = W := ⟨_, rfl⟩
  rw [hW] at q0 hb0
  have hO := open_any _ l 1 W (hk.below hb0) (h.below hb0) (by rw [hn]; exact hl) (by decide)
  have kW := hk.below hb0
  rw [hB] at q0
  have HW := Lib.hid hW; have HB := Lib.hid hB; have HB0 := Lib.hid hb0; have Q0 := Lib.hid q0; have KW := Lib.hid kW
  rw [Cm.get_eq]
  have hne := Cm.items_ne (b := l) (m := 1) (by decide)
  obtain ⟨S, hS⟩ : ∃ S, Cm.items l 1 = S := ⟨_, rfl⟩
  rw [hS] at hne hO ⊢
  obtain ⟨⟨day, S2⟩, hp⟩ : ∃ p, Cm.nx Cm.asI 0 S = p := ⟨_, rfl⟩
  rw [hp]
  dsimp only
  obtain ⟨Z, hZ⟩ : ∃ Z, Cm.restS (fun _ => Cm.asO) day S2 = Z := ⟨_, rfl⟩
  rw [hZ]
  have HP := Lib.hid hp; have HZ := Lib.hid hZ
  clear hW hB hb0 q0 kW hk h hS hn hp hZ
  go_enter Tryz.func8, Tryz.ntmps8
  go_wp2_with fail
  rw [HW.out, HB.out]
  (try go_wp2_with fail)
  refine hO.mono ?_; rintro e w1 ⟨⟨R, rfl, hRB, hrd⟩, hb1⟩
  have k1 := KW.out.below hb1
  have hI := nextI_any R S w1 w1 k1 hne hrd.slim (Only.refl _ _) hrd
  have HRB := Lib.hid hRB; have HRD := Lib.hid hrd; have HB1 := Lib.hid hb1; have K1 := Lib.hid k1
  clear hO hRB hrd hb1 k1 hne
  rw [HP.out] at hI
  dsimp only at hI
  go_wp2_with fail
  refine hI.mono ?_; rintro e w2 ⟨rfl, hrd2, hbt2⟩
  have hG := restG_any day R S2 w1 w2 K1.out HRD.out.slim hbt2 hrd2
  have HBT2 := Lib.hid hbt2
  rw [HZ.out] at hG
  clear hI hrd2 hbt2 HZ
  go_wp2_with fail
  refine hG.mono ?_; rintro e w3 ⟨hres, hb3⟩
  have hbW3 : Below W.heap.size W w3 := HB1.out.trans (but_below (HBT2.out.trans hb3) HB1.out.size HRB.out)
  have d3 : Duo w3 B 24 (.int .i64 0) (.slice none 0 0) := Q0.out.stp hbW3
  have hbw3 := HB0.out.trans (hbW3.mono HB0.out.size)
  have HBw3 := Lib.hid hbw3; have D3 := Lib.hid d3
  have c0 := d3.cell0; have c1 := d3.cell1; have dl := d3.lt
  have f0 : w3.frozen? ⟨B, 0, none⟩ = false := d3.free 0
  have f1 : w3.frozen? ⟨B, 1, none⟩ = false := d3.free 1
  clear hG hb3 hbW3 hbw3 d3
  cases Z with
  | error cc =>
    obtain rfl : e = _ := hres
    go_wp2_with fail
    refine bodyPost_ret (casc_none rfl rfl rfl (duo_casc2 D3.out _ _)) rfl ?_
    exact ⟨rfl, (HBw3.out.setCell (by rw [HB.out]; exact Nat.le_refl _) _).setCell (by rw [HB.out]; exact Nat.le_refl _) _⟩
  | ok pz =>
    obtain ⟨day', ls⟩ := pz
    obtain ⟨av, cv, rfl, hsv⟩ := hres
    have HSv := Lib.hid hsv
    clear hsv
    go_wp2_with fail
    refine bodyPost_ret (casc_none rfl rfl rfl (duo_casc2 D3.out _ _)) rfl ?_
    exact ⟨⟨av, cv, rfl, svs_set2 HSv.out D3.out _ _⟩, (HBw3.out.setCell (by rw [HB.out]; exact Nat.le_refl _) _).setCell (by rw [HB.out]; exact Nat.le_refl _) _⟩
theorem fromS_err {da f : Int} {c : Int} : Cm.fromS da f (.error c) = .error c := rfl

set_option maxRecDepth 100000 in
set_option maxHeartbeats 4000000 in
theorem CApply_any (da : Int) (va v : Value) (xs : List Sm.Sv) (l : List Int) (w : World) (hk : KindsAt w) (hs : Svs w va xs) (h : Row .u8 w v l) (hxl : xs.length ≤ 1000000) (hl : l.length ≤ 1000000) :
    Calls Tryz.prog 13 #[.agg #[.int .i64 da, va], v] w fun e w' => CascR w' e (Cm.apply da xs l) ∧ Below w.heap.size w w' := by
  obtain ⟨a, c, rfl⟩ := h.shape l.length rfl
  obtain ⟨aa, ca, rfl⟩ := hs.shape
  obtain ⟨n, hn⟩ : ∃ n, l.length = n := ⟨_, rfl⟩
  obtain ⟨m, hm⟩ : ∃ m, xs.length = m := ⟨_, rfl⟩
  rw [hn] at h hl ⊢
  obtain ⟨B, hB⟩ : ∃ B, w.heap.size = B := ⟨_, rfl⟩
  have qa := (Duo.new w 24 (.int .i64 da) (.slice aa xs.length ca)).alloc (.cells #[.int .i64 0, .slice none 0 0] 24)
  have q0 := Duo.new (w.alloc (.cells #[.int .i64 da, .slice aa xs.length ca] 24)) 24 (.int .i64 0) (.slice none 0 0)
  have hb0 := ((Below.refl w.heap.size w).alloc (Nat.le_refl _) (.cells #[.int .i64 da, .slice aa xs.length ca] 24)).alloc (by simp) (.cells #[.int .i64 0, .slice none 0 0] 24)
  rw [World.size_alloc] at q0
  obtain ⟨W, hW⟩ : ∃ W, (w.alloc (.cells #[.int .i64 da, .slice aa xs.length ca] 24)).alloc (.cells #[.int .i64 0, .slice none 0 0] 24) = W := ⟨_, rfl⟩
  rw [hW] at q0 hb0 qa
  rw [hB] at q0 qa
  have sW := hs.below hb0; have kW := hk.below hb0; have rW := h.below hb0
  have hAt : AtA W B da xs := ⟨aa, ca, qa, sW⟩
  have hCk := CCheck_any da _ xs W sW hxl
  obtain ⟨E, hE⟩ : ∃ E, Cm.chk da xs = E := ⟨_, rfl⟩
  rw [hE] at hCk
  obtain ⟨Z, hZ⟩ : ∃ Z, Cm.apply da xs l = Z := ⟨_, rfl⟩
  rw [hZ]
  rw [hm] at hW qa hCk sW ⊢
  have HW := Lib.hid hW; have HB := Lib.hid hB; have HB0 := Lib.hid hb0; have Q0 := Lib.hid q0; have KW := Lib.hid kW; have QA := Lib.hid qa; have RW := Lib.hid rW; have HAt := Lib.hid hAt; have HE := Lib.hid hE; have HZ := Lib.hid hZ; have HN := Lib.hid hn
  have c0 := qa.cell0; have c1 := qa.cell1
  clear hW hB hb0 q0 kW qa rW hAt hE hZ sW hs hk h hm hn
  by_cases h0 : E = 0
  case neg =>
    have hz : Z = .error E := by rw [← HZ.out]; unfold Cm.apply; rw [HE.out, if_pos h0]
    have HZ2 := Lib.hid hz
    clear hz
    go_enter Tryz.func13, Tryz.ntmps13
    go_wp2_with fail
    rw [HW.out, HB.out]
    (try go_wp2_with fail)
    refine hCk.mono ?_; rintro e w1 ⟨rfl, hb⟩
    have d1 : Duo w1 (B + 1) 24 (.int .i64 0) (.slice none 0 0) := Q0.out.stp hb
    have HB1 := Lib.hid (HB0.out.trans (hb.mono HB0.out.size))
    have D1 := Lib.hid d1
    clear hCk c0 c1
    have c0 := d1.cell0; have c1 := d1.cell1; have dl := d1.lt
    have f0 : w1.frozen? ⟨B + 1, 0, none⟩ = false := d1.free 0
    have f1 : w1.frozen? ⟨B + 1, 1, none⟩ = false := d1.free 1
    clear hb d1
    go_wp2_with fail
    refine bodyPost_ret (casc_none rfl rfl rfl (duo_casc2 D1.out _ _)) rfl ?_
    rw [HZ2.out]
    exact ⟨rfl, (HB1.out.setCell (by rw [HB.out]; exact Nat.le_succ _) _).setCell (by rw [HB.out]; exact Nat.le_succ _) _⟩
  subst h0
  have hz : Z = _ := HZ.out.symm.trans (Cm.apply_eq l HE.out)
  have hfew := Cm.good_short (Cm.chk_zero.1 HE.out)
  have hne := Cm.items_ne (b := l) (m := 2) (by decide)
  have hne2 := Cm.nx_two (d := l)
  have HFew := Lib.hid hfew
  obtain ⟨S, hS⟩ : ∃ S, Cm.items l 2 = S := ⟨_, rfl⟩
  rw [hS] at hne hne2 hz
  obtain ⟨⟨f, S1⟩, hp⟩ : ∃ p, Cm.nx Cm.asI 0 S = p := ⟨_, rfl⟩
  rw [hp] at hne2 hz
  dsimp only at hne2 hz
  obtain ⟨⟨day, S2⟩, hp2⟩ : ∃ p, Cm.nx Cm.asI 0 S1 = p := ⟨_, rfl⟩
  rw [hp2] at hz
  dsimp only at hz
  have HS := Lib.hid hS; have HP := Lib.hid hp; have HP2 := Lib.hid hp2; have HZ2 := Lib.hid hz; have HNE := Lib.hid hne; have HNE2 := Lib.hid hne2
  clear hS hp hp2 hz hfew hne hne2
  go_enter Tryz.func13, Tryz.ntmps13
  go_wp2_with fail
  rw [HW.out, HB.out]
  (try go_wp2_with fail)
  refine hCk.mono ?_; rintro e w1 ⟨rfl, hb⟩
  have HB1 := Lib.hid hb
  have hO := open_any _ l 2 w1 (KW.out.below hb) (RW.out.below hb) (by rw [HN.out]; exact hl) (by decide)
  rw [HS.out] at hO
  clear hCk c0 c1 hb
  go_wp2_with fail
  refine hO.mono ?_; rintro e w2 ⟨⟨R, rfl, hRB, hrd⟩, hb2⟩
  have hW2 := HB1.out.trans (hb2.mono HB1.out.size)
  have k2 := KW.out.below hW2
  have hI := nextI_any R S w2 w2 k2 HNE.out hrd.slim (Only.refl _ _) hrd
  rw [HP.out] at hI
  dsimp only at hI
  have HRB := Lib.hid (Nat.le_trans HB1.out.size hRB); have HRD := Lib.hid hrd; have HW2 := Lib.hid hW2; have K2 := Lib.hid k2
  clear hO hRB hrd hb2 hW2 k2
  go_wp2_with fail
  refine hI.mono ?_; rintro e w3 ⟨rfl, hrd3, hbt3⟩
  have hI2 := nextI_any R S1 w2 w3 (K2.out.but HRD.out.slim hbt3) HNE2.out HRD.out.slim hbt3 hrd3
  rw [HP2.out] at hI2
  dsimp only at hI2
  have HBT3 := Lib.hid hbt3
  clear hI hrd3 hbt3
  go_wp2_with fail
  refine hI2.mono ?_; rintro e w4 ⟨rfl, hrd4, hbt4⟩
  have hbt24 := HBT3.out.trans hbt4
  have hat2 := HAt.out.below HW2.out
  have hAR : B ≠ R := by have h1 := Q0.out.lt; have h2 := HRB.out; omega
  obtain ⟨aa', ca', dA4, -⟩ := hat2.but hAR HRD.out.slim hbt24
  have a0 := dA4.cell0; have lA := dA4.lt
  have hfin : ∀ (S3 : Except Int (List Dm.It)) (w5 : World), RdR w2 w5 R S3 → ButB R w2 w5 → Cm.restS (Cm.asA xs) day S3 = Z → Calls Tryz.prog 29 #[.pointer (some ⟨R, 0, none⟩), .int .i64 day, .func (.func 42) #[] #[.pointer (some ⟨B, 0, none⟩)]] w5 fun e w' => CascR w' e Z ∧ Below w.heap.size w w' ∧ Duo w' (B + 1) 24 (.int .i64 0) (.slice none 0 0) := fun S3 w5 h1 h2 h3 => by
    subst h3
    refine (restA_any day R S3 w2 w5 B xs da hAR hat2 HFew.out K2.out HRD.out.slim h2 h1).mono ?_
    rintro e w' ⟨hres, hb⟩
    have hbW : Below W.heap.size W w' := HW2.out.trans (but_below (h2.trans hb) HW2.out.size HRB.out)
    exact ⟨hres, HB0.out.trans (hbW.mono HB0.out.size), Q0.out.stp hbW⟩
  clear hI2 hat2 dA4
  cases S2 with
  | error cc =>
    have hrd5 := hrd4
    obtain ⟨hc0, ra, rn, rk, hdR⟩ := hrd4
    have r1 := hdR.cell1; have lR := hdR.lt
    clear hdR
    have hR5 := hfin (.error cc) w4 hrd5 hbt24 HZ2.out.symm
    clear hfin hrd5 hbt24 hbt4
    go_wp2_with fail
    refine hR5.mono ?_; rintro e w6 ⟨hres, hbw6, d6⟩
    have HBw6 := Lib.hid hbw6; have D6 := Lib.hid d6
    have g0 := d6.cell0; have g1 := d6.cell1; have dl6 := d6.lt
    have f0 : w6.frozen? ⟨B + 1, 0, none⟩ = false := d6.free 0
    have f1 : w6.frozen? ⟨B + 1, 1, none⟩ = false := d6.free 1
    clear hR5 hbw6 d6 HZ HZ2 HP2
    cases Z with
    | error cc' =>
      obtain rfl : e = _ := hres
      go_wp2_with fail
      refine bodyPost_ret (casc_none rfl rfl rfl (duo_casc2 D6.out _ _)) rfl ?_
      exact ⟨rfl, (HBw6.out.setCell (by rw [HB.out]; exact Nat.le_succ _) _).setCell (by rw [HB.out]; exact Nat.le_succ _) _⟩
    | ok pz =>
      obtain ⟨day', ls⟩ := pz
      obtain ⟨av, cv, rfl, hsv⟩ := hres
      have HSv := Lib.hid hsv
      clear hsv
      go_wp2_with fail
      refine bodyPost_ret (casc_none rfl rfl rfl (duo_casc2 D6.out _ _)) rfl ?_
      exact ⟨⟨av, cv, rfl, svs_set2 HSv.out D6.out _ _⟩, (HBw6.out.setCell (by rw [HB.out]; exact Nat.le_succ _) _).setCell (by rw [HB.out]; exact Nat.le_succ _) _⟩
  | ok l2 =>
    have hrd5 := hrd4
    obtain ⟨ra, rk, hdR, hit, hft⟩ := hrd4
    have r1 := hdR.cell1; have lR := hdR.lt
    have fr1 : w4.frozen? ⟨R, 1, none⟩ = false := hdR.free 1
    by_cases hf : f = da
    · have hz3 : Z = Cm.restS (Cm.asA xs) day (.ok l2) := by rw [HZ2.out]; show Cm.restS (Cm.asA xs) day (if f = da then .ok l2 else .error 1) = _; rw [if_pos hf]
      subst hf
      clear hdR hit hft
      have hR5 := hfin (.ok l2) w4 hrd5 hbt24 hz3.symm
      clear hfin hrd5 hbt24 hbt4 hz3
      go_wp2_with fail
      refine hR5.mono ?_; rintro e w6 ⟨hres, hbw6, d6⟩
      have HBw6 := Lib.hid hbw6; have D6 := Lib.hid d6
      have g0 := d6.cell0; have g1 := d6.cell1; have dl6 := d6.lt
      have f0 : w6.frozen? ⟨B + 1, 0, none⟩ = false := d6.free 0
      have f1 : w6.frozen? ⟨B + 1, 1, none⟩ = false := d6.free 1
      clear hR5 hbw6 d6 HZ HZ2 HP2
      cases Z with
      | error cc' =>
        obtain rfl : e = _ := hres
        go_wp2_with fail
        refine bodyPost_ret (casc_none rfl rfl rfl (duo_casc2 D6.out _ _)) rfl ?_
        exact ⟨rfl, (HBw6.out.setCell (by rw [HB.out]; exact Nat.le_succ _) _).setCell (by rw [HB.out]; exact Nat.le_succ _) _⟩
      | ok pz =>
        obtain ⟨day', ls⟩ := pz
        obtain ⟨av, cv, rfl, hsv⟩ := hres
        have HSv := Lib.hid hsv
        clear hsv
        go_wp2_with fail
        refine bodyPost_ret (casc_none rfl rfl rfl (duo_casc2 D6.out _ _)) rfl ?_
        exact ⟨⟨av, cv, rfl, svs_set2 HSv.out D6.out _ _⟩, (HBw6.out.setCell (by rw [HB.out]; exact Nat.le_succ _) _).setCell (by rw [HB.out]; exact Nat.le_succ _) _⟩
    · have hz3 : Z = Cm.restS (Cm.asA xs) day (.error 1) := by rw [HZ2.out]; show Cm.restS (Cm.asA xs) day (if f = da then .ok l2 else .error 1) = _; rw [if_neg hf]
      have hrd6 : RdR w2 (w4.setCell ⟨R, 1, none⟩ (.int .i64 1)) R (.error 1) := ⟨by decide, _, _, _, hdR.set1 _⟩
      have hbt26 : ButB R w2 (w4.setCell ⟨R, 1, none⟩ (.int .i64 1)) := but_set hbt24 1 _
      have hAR' : ¬ R = B := fun e => hAR e.symm
      clear hdR hit hft hrd5
      have hR5 := hfin (.error 1) _ hrd6 hbt26 hz3.symm
      clear hfin hrd6 hbt26 hbt24 hbt4 hz3
      go_wp2_with fail
      refine hR5.mono ?_; rintro e w6 ⟨hres, hbw6, d6⟩
      have HBw6 := Lib.hid hbw6; have D6 := Lib.hid d6
      have g0 := d6.cell0; have g1 := d6.cell1; have dl6 := d6.lt
      have f0 : w6.frozen? ⟨B + 1, 0, none⟩ = false := d6.free 0
      have f1 : w6.frozen? ⟨B + 1, 1, none⟩ = false := d6.free 1
      clear hR5 hbw6 d6 HZ HZ2 HP2
      cases Z with
      | error cc' =>
        obtain rfl : e = _ := hres
        go_wp2_with fail
        refine bodyPost_ret (casc_none rfl rfl rfl (duo_casc2 D6.out _ _)) rfl ?_
        exact ⟨rfl, (HBw6.out.setCell (by rw [HB.out]; exact Nat.le_succ _) _).setCell (by rw [HB.out]; exact Nat.le_succ _) _⟩
      | ok pz =>
        obtain ⟨day', ls⟩ := pz
        obtain ⟨av, cv, rfl, hsv⟩ := hres
        have HSv := Lib.hid hsv
        clear hsv
        go_wp2_with fail
        refine bodyPost_ret (casc_none rfl rfl rfl (duo_casc2 D6.out _ _)) rfl ?_
        exact ⟨⟨av, cv, rfl, svs_set2 HSv.out D6.out _ _⟩, (HBw6.out.setCell (by rw [HB.out]; exact Nat.le_succ _) _).setCell (by rw [HB.out]; exact Nat.le_succ _) _⟩
end Go.Proofs.YtfdchdnkblmijaaGreatDoor
