/-
  The texts Kg Rn in one. (Merged by wip/lay10m.py.)
-/
import Derived.Test.YtikgdpfnpcfkkaaGreatDoorKp
import Derived.Test.YtikgdpfnpcfkkaaGreatDoorKq
import Derived.Test.YtikgdpfnpcfkkaaGreatDoorYf
import Derived.Test.YtikgdpfnpcfkkaaGreatDoorYe
import Derived.Test.YtikgdpfnpcfkkaaGreatDoorYc
import Derived.Lib.QuietBelow
import Derived.BigQuiet

section
namespace Go.Proofs.YtikgdpfnpcfkkaaGreatDoor
open Go.RowKit

theorem duo_casc2 {W : World} {B : Nat} {x y : Value} (hd : Duo W B 32 x y) (u v : Value) : Duo ((W.setCell ⟨B, 0, none⟩ u).setCell ⟨B, 1, none⟩ v) B 32 u v := (hd.set0 u).set1 v

theorem fromS_err {da f : Int} {c : Int} : Cm.fromS da f (.error c) = .error c := rfl

set_option maxRecDepth 100000 in
set_option maxHeartbeats 4000000 in
theorem CApply_any (da : Int) (va v : Value) (xs : List Sm.Sv) (l : List Int) (w : World) (hk : KindsAt w) (hs : Svs w va xs) (h : Row .u8 w v l) (hxl : xs.length ≤ 1000000) (hl : l.length ≤ 1000000) :
    Calls Tryz.prog 9 #[.agg #[.int .i64 da, va], v] w fun e w' => CascR w' e (Cm.apply da xs l) ∧ Below w.heap.size w w' := by
  obtain ⟨a, c, rfl⟩ := h.shape l.length rfl
  obtain ⟨aa, ca, rfl⟩ := hs.shape
  obtain ⟨n, hn⟩ : ∃ n, l.length = n := ⟨_, rfl⟩
  obtain ⟨m, hm⟩ : ∃ m, xs.length = m := ⟨_, rfl⟩
  rw [hn] at h hl ⊢
  obtain ⟨B, hB⟩ : ∃ B, w.heap.size = B := ⟨_, rfl⟩
  have qa := (Duo.new w 32 (.int .i64 da) (.slice aa xs.length ca)).alloc (.cells #[.int .i64 0, .slice none 0 0] 32)
  have q0 := Duo.new (w.alloc (.cells #[.int .i64 da, .slice aa xs.length ca] 32)) 32 (.int .i64 0) (.slice none 0 0)
  have hb0 := ((Below.refl w.heap.size w).alloc (Nat.le_refl _) (.cells #[.int .i64 da, .slice aa xs.length ca] 32)).alloc (by simp) (.cells #[.int .i64 0, .slice none 0 0] 32)
  rw [World.size_alloc] at q0
  obtain ⟨W, hW⟩ : ∃ W, (w.alloc (.cells #[.int .i64 da, .slice aa xs.length ca] 32)).alloc (.cells #[.int .i64 0, .slice none 0 0] 32) = W := ⟨_, rfl⟩
  rw [hW] at q0 hb0 qa
  rw [hB] at q0 qa
  have sW := hs.below hb0; have kW := hk.below hb0; have rW := h.below hb0
  have hAt : AtA W B da xs := ⟨aa, ca, qa, sW⟩
  have hCk := CCheck_any da _ xs W sW hxl
  obtain ⟨E, hE⟩ : ∃ E, Cm.chk da xs = E := ⟨_, rfl⟩
  rw [hE] at hCk
  obtain ⟨Z, hZ⟩ : ∃ Z, Cm.apply da xs l = Z := ⟨_, rfl⟩
  rw [hZ]
  rw [hm] at hW qa hCk sW ⊢
  have HW := Lib.hid hW; have HB := Lib.hid hB; have HB0 := Lib.hid hb0; have Q0 := Lib.hid q0; have KW := Lib.hid kW; have QA := Lib.hid qa; have RW := Lib.hid rW; have HAt := Lib.hid hAt; have HE := Lib.hid hE; have HZ := Lib.hid hZ; have HN := Lib.hid hn
  have c0 := qa.cell0; have c1 := qa.cell1
  clear hW hB hb0 q0 kW qa rW hAt hE hZ sW hs hk h hm hn
  by_cases h0 : E = 0
  case neg =>
    have hz : Z = .error E := by rw [← HZ.out]; unfold Cm.apply; rw [HE.out, if_pos h0]
    have HZ2 := Lib.hid hz
    clear hz
    go_enter Tryz.func9, Tryz.ntmps9
    go_wp2_with fail
    rw [HW.out, HB.out]
    (try go_wp2_with fail)
    refine hCk.mono ?_; rintro e w1 ⟨rfl, hb⟩
    have d1 : Duo w1 (B + 1) 32 (.int .i64 0) (.slice none 0 0) := Q0.out.stp hb
    have HB1 := Lib.hid (HB0.out.trans (hb.mono HB0.out.size))
    have D1 := Lib.hid d1
    clear hCk c0 c1
    have c0 := d1.cell0; have c1 := d1.cell1; have dl := d1.lt
    have f0 : w1.frozen? ⟨B + 1, 0, none⟩ = false := d1.free 0
    have f1 : w1.frozen? ⟨B + 1, 1, none⟩ = false := d1.free 1
    clear hb d1
    go_wp2_with fail
    refine bodyPost_ret (casc_none rfl rfl rfl (duo_casc2 D1.out _ _)) rfl ?_
    rw [HZ2.out]
    exact ⟨rfl, (HB1.out.setCell (by rw [HB.out]; exact Nat.le_succ _) _).setCell (by rw [HB.out]; exact Nat.le_succ _) _⟩
  subst h0
  have hz : Z = _ := HZ.out.symm.trans (Cm.apply_eq l HE.out)
  have hfew := Cm.good_short (Cm.chk_zero.1 HE.out)
  have hne := Cm.items_ne (b := l) (m := 2) (by decide)
  have hne2 := Cm.nx_two (d := l)
  have HFew := Lib.hid hfew
  obtain ⟨S, hS⟩ : ∃ S, Cm.items l 2 = S := ⟨_, rfl⟩
  rw [hS] at hne hne2 hz
  obtain ⟨⟨f, S1⟩, hp⟩ : ∃ p, Cm.nx Cm.asI 0 S = p := ⟨_, rfl⟩
  rw [hp] at hne2 hz
  dsimp only at hne2 hz
  obtain ⟨⟨day, S2⟩, hp2⟩ : ∃ p, Cm.nx Cm.asI 0 S1 = p := ⟨_, rfl⟩
  rw [hp2] at hz
  dsimp only at hz
  have HS := Lib.hid hS; have HP := Lib.hid hp; have HP2 := Lib.hid hp2; have HZ2 := Lib.hid hz; have HNE := Lib.hid hne; have HNE2 := Lib.hid hne2
  clear hS hp hp2 hz hfew hne hne2
  go_enter Tryz.func9, Tryz.ntmps9
  go_wp2_with fail
  rw [HW.out, HB.out]
  (try go_wp2_with fail)
  refine hCk.mono ?_; rintro e w1 ⟨rfl, hb⟩
  have HB1 := Lib.hid hb
  have hO := open_any _ l 2 w1 (KW.out.below hb) (RW.out.below hb) (by rw [HN.out]; exact hl) (by decide)
  rw [HS.out] at hO
  clear hCk c0 c1 hb
  go_wp2_with fail
  refine hO.mono ?_; rintro e w2 ⟨⟨R, rfl, hRB, hrd⟩, hb2⟩
  have hW2 := HB1.out.trans (hb2.mono HB1.out.size)
  have k2 := KW.out.below hW2
  have hI := nextI_any R S w2 w2 k2 HNE.out hrd.slim (Only.refl _ _) hrd
  rw [HP.out] at hI
  dsimp only at hI
  have HRB := Lib.hid (Nat.le_trans HB1.out.size hRB); have HRD := Lib.hid hrd; have HW2 := Lib.hid hW2; have K2 := Lib.hid k2
  clear hO hRB hrd hb2 hW2 k2
  go_wp2_with fail
  refine hI.mono ?_; rintro e w3 ⟨rfl, hrd3, hbt3⟩
  have hI2 := nextI_any R S1 w2 w3 (K2.out.but HRD.out.slim hbt3) HNE2.out HRD.out.slim hbt3 hrd3
  rw [HP2.out] at hI2
  dsimp only at hI2
  have HBT3 := Lib.hid hbt3
  clear hI hrd3 hbt3
  go_wp2_with fail
  refine hI2.mono ?_; rintro e w4 ⟨rfl, hrd4, hbt4⟩
  have hbt24 := HBT3.out.trans hbt4
  have hat2 := HAt.out.below HW2.out
  have hAR : B ≠ R := by have h1 := Q0.out.lt; have h2 := HRB.out; omega
  obtain ⟨aa', ca', dA4, -⟩ := hat2.but hAR HRD.out.slim hbt24
  have a0 := dA4.cell0; have lA := dA4.lt
  have hfin : ∀ (S3 : Except Int (List Dm.It)) (w5 : World), RdR w2 w5 R S3 → ButB R w2 w5 → Cm.restS (Cm.asA xs) day S3 = Z → Calls Tryz.prog 31 #[.pointer (some ⟨R, 0, none⟩), .int .i64 day, .func (.func 32) #[] #[.pointer (some ⟨B, 0, none⟩)]] w5 fun e w' => CascR w' e Z ∧ Below w.heap.size w w' ∧ Duo w' (B + 1) 32 (.int .i64 0) (.slice none 0 0) := fun S3 w5 h1 h2 h3 => by
    subst h3
    refine (restA_any day R S3 w2 w5 B xs da hAR hat2 HFew.out K2.out HRD.out.slim h2 h1).mono ?_
    rintro e w' ⟨hres, hb⟩
    have hbW : Below W.heap.size W w' := HW2.out.trans (but_below (h2.trans hb) HW2.out.size HRB.out)
    exact ⟨hres, HB0.out.trans (hbW.mono HB0.out.size), Q0.out.stp hbW⟩
  clear hI2 hat2 dA4
  cases S2 with
  | error cc =>
    have hrd5 := hrd4
    obtain ⟨hc0, ra, rn, rk, hdR⟩ := hrd4
    have r1 := hdR.cell1; have lR := hdR.lt
    clear hdR
    have hR5 := hfin (.error cc) w4 hrd5 hbt24 HZ2.out.symm
    clear hfin hrd5 hbt24 hbt4
    go_wp2_with fail
    refine hR5.mono ?_; rintro e w6 ⟨hres, hbw6, d6⟩
    have HBw6 := Lib.hid hbw6; have D6 := Lib.hid d6
    have g0 := d6.cell0; have g1 := d6.cell1; have dl6 := d6.lt
    have f0 : w6.frozen? ⟨B + 1, 0, none⟩ = false := d6.free 0
    have f1 : w6.frozen? ⟨B + 1, 1, none⟩ = false := d6.free 1
    clear hR5 hbw6 d6 HZ HZ2 HP2
    cases Z with
    | error cc' =>
      obtain rfl : e = _ := hres
      go_wp2_with fail
      refine bodyPost_ret (casc_none rfl rfl rfl (duo_casc2 D6.out _ _)) rfl ?_
      exact ⟨rfl, (HBw6.out.setCell (by rw [HB.out]; exact Nat.le_succ _) _).setCell (by rw [HB.out]; exact Nat.le_succ _) _⟩
    | ok pz =>
      obtain ⟨day', ls⟩ := pz
      obtain ⟨av, cv, rfl, hsv⟩ := hres
      have HSv := Lib.hid hsv
      clear hsv
      go_wp2_with fail
      refine bodyPost_ret (casc_none rfl rfl rfl (duo_casc2 D6.out _ _)) rfl ?_
      exact ⟨⟨av, cv, rfl, svs_set2 HSv.out D6.out _ _⟩, (HBw6.out.setCell (by rw [HB.out]; exact Nat.le_succ _) _).setCell (by rw [HB.out]; exact Nat.le_succ _) _⟩
  | ok l2 =>
    have hrd5 := hrd4
    obtain ⟨ra, rk, hdR, hit, hft⟩ := hrd4
    have r1 := hdR.cell1; have lR := hdR.lt
    have fr1 : w4.frozen? ⟨R, 1, none⟩ = false := hdR.free 1
    by_cases hf : f = da
    · have hz3 : Z = Cm.restS (Cm.asA xs) day (.ok l2) := by rw [HZ2.out]; show Cm.restS (Cm.asA xs) day (if f = da then .ok l2 else .error 1) = _; rw [if_pos hf]
      subst hf
      clear hdR hit hft
      have hR5 := hfin (.ok l2) w4 hrd5 hbt24 hz3.symm
      clear hfin hrd5 hbt24 hbt4 hz3
      go_wp2_with fail
      refine hR5.mono ?_; rintro e w6 ⟨hres, hbw6, d6⟩
      have HBw6 := Lib.hid hbw6; have D6 := Lib.hid d6
      have g0 := d6.cell0; have g1 := d6.cell1; have dl6 := d6.lt
      have f0 : w6.frozen? ⟨B + 1, 0, none⟩ = false := d6.free 0
      have f1 : w6.frozen? ⟨B + 1, 1, none⟩ = false := d6.free 1
      clear hR5 hbw6 d6 HZ HZ2 HP2
      cases Z with
      | error cc' =>
        obtain rfl : e = _ := hres
        go_wp2_with fail
        refine bodyPost_ret (casc_none rfl rfl rfl (duo_casc2 D6.out _ _)) rfl ?_
        exact ⟨rfl, (HBw6.out.setCell (by rw [HB.out]; exact Nat.le_succ _) _).setCell (by rw [HB.out]; exact Nat.le_succ _) _⟩
      | ok pz =>
        obtain ⟨day', ls⟩ := pz
        obtain ⟨av, cv, rfl, hsv⟩ := hres
        have HSv := Lib.hid hsv
        clear hsv
        go_wp2_with fail
        refine bodyPost_ret (casc_none rfl rfl rfl (duo_casc2 D6.out _ _)) rfl ?_
        exact ⟨⟨av, cv, rfl, svs_set2 HSv.out D6.out _ _⟩, (HBw6.out.setCell (by rw [HB.out]; exact Nat.le_succ _) _).setCell (by rw [HB.out]; exact Nat.le_succ _) _⟩
    · have hz3 : Z = Cm.restS (Cm.asA xs) day (.error 1) := by rw [HZ2.out]; show Cm.restS (Cm.asA xs) day (if f = da then .ok l2 else .error 1) = _; rw [if_neg hf]
      have hrd6 : RdR w2 (w4.setCell ⟨R, 1, none⟩ (.int .i64 1)) R (.error 1) := ⟨by decide, _, _, _, hdR.set1 _⟩
      have hbt26 : ButB R w2 (w4.setCell ⟨R, 1, none⟩ (.int .i64 1)) := but_set hbt24 1 _
      have hAR' : ¬ R = B := fun e => hAR e.symm
      clear hdR hit hft hrd5
      have hR5 := hfin (.error 1) _ hrd6 hbt26 hz3.symm
      clear hfin hrd6 hbt26 hbt24 hbt4 hz3
      go_wp2_with fail
      refine hR5.mono ?_; rintro e w6 ⟨hres, hbw6, d6⟩
      have HBw6 := Lib.hid hbw6; have D6 := Lib.hid d6
      have g0 := d6.cell0; have g1 := d6.cell1; have dl6 := d6.lt
      have f0 : w6.frozen? ⟨B + 1, 0, none⟩ = false := d6.free 0
      have f1 : w6.frozen? ⟨B + 1, 1, none⟩ = false := d6.free 1
      clear hR5 hbw6 d6 HZ HZ2 HP2
      cases Z with
      | error cc' =>
        obtain rfl : e = _ := hres
        go_wp2_with fail
        refine bodyPost_ret (casc_none rfl rfl rfl (duo_casc2 D6.out _ _)) rfl ?_
        exact ⟨rfl, (HBw6.out.setCell (by rw [HB.out]; exact Nat.le_succ _) _).setCell (by rw [HB.out]; exact Nat.le_succ _) _⟩
      | ok pz =>
        obtain ⟨day', ls⟩ := pz
        obtain ⟨av, cv, rfl, hsv⟩ := hres
        have HSv := Lib.hid hsv
        clear hsv
        go_wp2_with fail
        refine bodyPost_ret (casc_none rfl rfl rfl (duo_casc2 D6.out _ _)) rfl ?_
        exact ⟨⟨av, cv, rfl, svs_set2 HSv.out D6.out _ _⟩, (HBw6.out.setCell (by rw [HB.out]; exact Nat.le_succ _) _).setCell (by rw [HB.out]; exact Nat.le_succ _) _⟩
end Go.Proofs.YtikgdpfnpcfkkaaGreatDoor
end

section
namespace Go.Proofs.YtikgdpfnpcfkkaaGreatDoor
open Go.RowKit Go.Sort

/-- No cascade of a day, or the one of it. -/
theorem Day_gen (vl vg : Value) (live gone : List Int) (day : Int) (w : World) (h : Row .i64 w vl live) (hg : Row .i64 w vg gone) (hl : live.length ≤ 1000000) (hgl : gone.length ≤ 1000000) :
    Calls Tryz.prog 7 #[.agg #[vl, vg], .int .i64 day] w fun e w' => (∃ d a n c z, e = .returned (.tuple #[.agg #[.int .i64 d, .slice a n c], .int .i64 z]) ∧ (z = 0 → ∃ ls, Rv.day live gone day = some ls ∧ day = d ∧ n = ls.length ∧ Svs w' (.slice a n c) ls)) ∧ Below w.heap.size w w' := by
  have no : ∀ cc : Int, cc ≠ 0 → ∀ (e : Ending) (w' : World), e = .returned (.tuple #[.agg #[.int .i64 0, .slice none 0 0], .int .i64 cc]) ∧ Below w.heap.size w w' → (∃ d a n c z, e = .returned (.tuple #[.agg #[.int .i64 d, .slice a n c], .int .i64 z]) ∧ (z = 0 → ∃ ls, Rv.day live gone day = some ls ∧ day = d ∧ n = ls.length ∧ Svs w' (.slice a n c) ls)) ∧ Below w.heap.size w w' :=
    fun cc hc e w' h => ⟨⟨0, none, 0, 0, cc, h.1, fun hz => absurd hz hc⟩, h.2⟩
  by_cases ho : Rv.okay live gone
  · by_cases hd : Cm.dated day
    · obtain ⟨o, hs⟩ : ∃ o, Cm.build day 16 0 gone (Rv.left live gone) = o := ⟨_, rfl⟩
      cases o with
      | none => exact (Day_none vl vg live gone day w h hg hl hgl ho ⟨hd, hs⟩).mono (no 2 (by decide))
      | some ls =>
        have hday : Rv.day live gone day = some ls := by unfold Rv.day; rw [if_pos ⟨ho, hd⟩]; exact hs
        exact (Day_some vl vg live gone day ls w h hg hl hgl ho ⟨hd, hs⟩).mono fun _ _ ⟨a, c, h1, h2, h3⟩ => ⟨⟨day, a, ls.length, c, 0, h1, fun _ => ⟨ls, hday, rfl, rfl, h2⟩⟩, h3⟩
    · exact (Day_arg vl vg live gone day w h hg hl hgl ho hd).mono (no 1 (by decide))
  · exact (Day_not vl vg live gone day w h hg hl hgl ho).mono fun e w' ⟨⟨cc, hc, he⟩, hb⟩ => no cc hc e w' ⟨he, hb⟩
theorem deltaR_err {da db : Int} {xs ys : List Sm.Sv} {c : Int} (h : Cm.deltaR da xs db ys = .error c) : c ≠ 0 := by
  unfold Cm.deltaR at h
  split at h
  · split at h
    · split at h
      · cases h
      · cases h; decide
    · next hn => cases h; exact hn
  · next hn => cases h; exact hn
theorem deltaR_ok {da db : Int} {xs ys : List Sm.Sv} {L : List Int} (h : Cm.deltaR da xs db ys = .ok L) : Cm.good da xs ∧ Cm.good db ys ∧ Dm.len (Cm.stepItem da xs db ys) ≤ 8192 ∧ L = Dm.bytes (Cm.stepItem da xs db ys) ∧ L.length ≤ 8192 := by
  unfold Cm.deltaR at h
  split at h
  · next h1 =>
    split at h
    · next h2 =>
      split at h
      · next h3 =>
        cases h
        exact ⟨Cm.chk_zero.1 h1, Cm.chk_zero.1 h2, h3, rfl, by rw [Dm.bytes_len]; exact h3⟩
      · cases h
    · cases h
  · cases h
theorem next_apply {a b : Int} {xs ys : List Sm.Sv} {L : List Int} (hd : Cm.deltaR a xs b ys = .ok L) : Cm.apply a xs L = .ok (b, ys) ∧ L.length ≤ 8192 := by
  obtain ⟨h1, h2, h3, h4, h5⟩ := deltaR_ok hd
  have := (Cm.step_apply (dc := b) (cs := ys) h1 h2 h2 h3).1
  rw [← h4] at this
  exact ⟨this, h5⟩
theorem next_has {live gone : List Int} {n a b : Int} {xs ys : List Sm.Sv} (hE : Rv.revE live gone n = 0) (ha : Rv.day live gone a = some xs) (hb : Rv.day live (Rv.ins gone n) b = some ys) :
    Cm.has b ys n = true ∧ Cm.has a xs n = false ∧ (∀ x ∈ live, x ≠ n → Cm.has b ys x = Cm.has a xs x) ∧ xs.length ≤ 16 ∧ ys.length ≤ 16 := by
  obtain ⟨ho, hn, hg⟩ := (Rv.revE_zero _ _ _).1 hE
  obtain ⟨-, -, g1, -, p1, p2⟩ := Rv.day_has ha
  obtain ⟨-, -, g2, -, q1, q2⟩ := Rv.day_has hb
  refine ⟨q1 n ((Rv.mem_ins _ _ _).2 (.inl rfl)), p2 n hn hg, fun x hx hne => ?_, g1.1, g2.1⟩
  by_cases h : x ∈ gone
  · rw [p1 x h, q1 x ((Rv.mem_ins _ _ _).2 (.inr h))]
  · rw [p2 x hx h, q2 x hx (fun h2 => by rcases (Rv.mem_ins _ _ _).1 h2 with h3 | h3; exact hne h3; exact h h3)]

theorem and_ffff (p : Int) : ∃ q : Nat, bits .and .i64 p 65535 = (q : Int) := by
  refine ⟨(BitVec.ofInt 64 p &&& BitVec.ofInt 64 65535).toNat, ?_⟩
  show IntKind.i64.wrap ((BitVec.ofInt 64 p &&& BitVec.ofInt 64 65535).toNat : Int) = _
  have h1 : (BitVec.ofInt 64 65535).toNat = 65535 := by decide
  have h2 : (BitVec.ofInt 64 p &&& BitVec.ofInt 64 65535).toNat ≤ 65535 := by rw [BitVec.toNat_and, h1]; exact Nat.and_le_right
  exact IntWalk.i64_in _ (by omega)
/-- What a day's cascade is, if there is one. -/
def DayC (W : World) (live gone : List Int) (day d : Int) (a : Option Addr) (n c : Nat) (z : Int) : Prop := z = 0 → ∃ ls, Rv.day live gone day = some ls ∧ day = d ∧ n = ls.length ∧ Svs W (.slice a n c) ls
theorem DayC.stp {W V : World} {live gone : List Int} {day d : Int} {a : Option Addr} {n c : Nat} {z : Int} (h : DayC W live gone day d a n c z) (s : Stp W V) : DayC V live gone day d a n c z := fun hz => by
  obtain ⟨ls, h1, h2, h3, h4⟩ := h hz
  exact ⟨ls, h1, h2, h3, h4.stp s⟩
theorem DayC.alloc {W : World} {live gone : List Int} {day d : Int} {a : Option Addr} {n c : Nat} {z : Int} (h : DayC W live gone day d a n c z) (o : Obj) : DayC (W.alloc o) live gone day d a n c z := fun hz => by
  obtain ⟨ls, h1, h2, h3, h4⟩ := h hz
  exact ⟨ls, h1, h2, h3, h4.alloc o⟩
theorem day_c (vl vg : Value) (live gone : List Int) (day : Int) (w : World) (h : Row .i64 w vl live) (hg : Row .i64 w vg gone) (hl : live.length ≤ 1000000) (hgl : gone.length ≤ 1000000) :
    Calls Tryz.prog 7 #[.agg #[vl, vg], .int .i64 day] w fun e w' => (∃ d a n c z, e = .returned (.tuple #[.agg #[.int .i64 d, .slice a n c], .int .i64 z]) ∧ DayC w' live gone day d a n c z) ∧ Below w.heap.size w w' := Day_gen vl vg live gone day w h hg hl hgl

set_option maxRecDepth 100000 in
set_option maxHeartbeats 8000000 in
theorem RevokeNext_any (v : Value) (x : List Int × List Int) (k a b : Int) (w : World) (hk : KindsAt w) (h : RvV w v x) (_k1 : (Lit.int .i64 k).wf = true) (_k2 : (Lit.int .i64 a).wf = true) (_k3 : (Lit.int .i64 b).wf = true) :
    Calls Tryz.prog 3 #[v, .int .i64 k, .int .i64 a, .int .i64 b] w fun e w' => e = .returned (.bool true) ∧ Below w.heap.size w w' := by
  clear _k1 _k2 _k3
  obtain ⟨live, gone, al, cl, ag, cg, rfl, rl, rg⟩ := h.parts
  clear h
  have hB := Below.refl w.heap.size w
  go_enter Tryz.func3, Tryz.ntmps3
  have bR := Duo.new w 24 (.slice al live.length cl) (.slice ag gone.length cg)
  go_wp2_with fail
  refine (live27_true _).mono ?_; rintro e w1 ⟨rfl, hb⟩
  replace hk := (hk.alloc _).stp hb
  replace hB := bel_stp (bel_alloc hB _) hb
  replace rl := (rl.alloc _).stp hb
  replace rg := (rg.alloc _).stp hb
  replace bR := bR.stp hb
  clear hb
  have c0_bR := bR.cell0
  have c1_bR := bR.cell1
  have lt_bR := bR.lt
  obtain ⟨fw, hfw⟩ : ∃ b, (decide (live.length ≤ 40) && decide (gone.length ≤ 40)) = b := ⟨_, rfl⟩
  have HFw := Lib.hid hfw
  clear hfw
  go_wp2_with fail
  refine (LFew_any live.length gone.length al ag cl cg _).mono ?_; rintro e w2 ⟨rfl, hb⟩
  clear c0_bR c1_bR lt_bR
  replace hk := hk.stp hb
  replace hB := bel_stp hB hb
  replace rl := rl.stp hb
  replace rg := rg.stp hb
  replace bR := bR.stp hb
  clear hb
  rw [HFw.out]
  cases fw
  case false =>
    have c0_bR := bR.cell0
    have c1_bR := bR.cell1
    have lt_bR := bR.lt
    go_wp2_with fail
    go_ret
    exact ⟨rfl, hB⟩
  obtain ⟨n1, n2⟩ : live.length ≤ 40 ∧ gone.length ≤ 40 := by have := HFw.out; simpa using this
  clear HFw
  by_cases h0 : live.length = 0
  case pos =>
    have h0' : (live.length : Int) = 0 := by omega
    clear h0
    have c0_bR := bR.cell0
    have c1_bR := bR.cell1
    have lt_bR := bR.lt
    go_wp2_with fail
    go_ret
    exact ⟨rfl, hB⟩
  have h0' : ¬ (live.length : Int) = 0 := by omega
  obtain ⟨K, hK⟩ := and_ffff k
  obtain ⟨i, hi⟩ : ∃ i : Nat, K % live.length = i := ⟨_, rfl⟩
  have hil : i < live.length := by have := Nat.mod_lt K (show 0 < live.length by omega); omega
  have hmod : Int.tmod (K : Int) (live.length : Int) = (i : Int) := by rw [← Int.ofNat_tmod, hi]
  have hwf := rl.wf
  have RL0 := rl
  obtain ⟨_, _, e', _, _, _, _, h5⟩ := RL0
  cases e'
  obtain ⟨b0, o0, rfl, hb0, hc0⟩ := h5 (by rintro rfl; simp at h0)
  have hck := hc0 i hil
  obtain ⟨n, hn⟩ : ∃ n, live[i]?.getD 0 = n := ⟨_, rfl⟩
  rw [hn] at hck
  have hnm : n ∈ live := mem_at hil hn
  have hnw := hwf n hnm
  have HNM := Lib.hid hnm; have HNW := Lib.hid hnw
  have i0 : (0 : Int) ≤ (i : Int) := by omega
  have i1 : (i : Int) < (live.length : Int) := by omega
  clear hwf h5 hc0 hn hnm hnw hil hi h0
  have c0_bR := bR.cell0
  have c1_bR := bR.cell1
  have lt_bR := bR.lt
  have q_c0_bR := cell_regrown c0_bR
  have q_c1_bR := cell_regrown c1_bR
  have q_hck := cell_regrown hck
  go_wp2_with fail
  (try rw [hV])
  refine wp_region_quiet_below (by kernel_rfl) (by kernel_rfl) ?_
  repeat (go_big_quiet_step (first | fail))
  refine wpQuiet_nil ?_
  intro _ hw'
  obtain ⟨⟨dq, osq⟩, hw''⟩ := hw'
  subst hw''
  have hb : Stp w2 (grow (redrawn w2 dq) osq) := below_regrown w2 dq osq
  generalize grow (redrawn w2 dq) osq = V5 at hb ⊢
  clear q_c0_bR q_c1_bR q_hck hck i0 i1 hmod hK h0'
  clear c0_bR c1_bR lt_bR
  replace hk := hk.stp hb
  replace hB := bel_stp hB hb
  replace rl := rl.stp hb
  replace rg := rg.stp hb
  replace bR := bR.stp hb
  clear hb
  obtain ⟨E, hE⟩ : ∃ E, Rv.revE live gone n = E := ⟨_, rfl⟩
  obtain ⟨L2, hL2⟩ : ∃ E, (Rv.revR live gone n).1 = E := ⟨_, rfl⟩
  obtain ⟨G2, hG2⟩ : ∃ E, (Rv.revR live gone n).2 = E := ⟨_, rfl⟩
  have hb2 := Rv.revR_len live gone n
  rw [hL2, hG2] at hb2
  have HR : Hid (Rv.revR live gone n = (L2, G2)) := Lib.hid (by rw [← hL2, ← hG2])
  have HE := Lib.hid hE
  obtain ⟨b2, b3⟩ := hb2
  clear hE hL2 hG2
  have c0_bR := bR.cell0
  have c1_bR := bR.cell1
  have lt_bR := bR.lt
  go_wp2_with fail
  refine (Rev_is _ _ live gone n E L2 G2 L2.length G2.length _ rl rg (by omega) (by omega) HNW.out HE.out HR.out rfl rfl).mono ?_; rintro e w3 ⟨⟨a3, c3, a4, c4, rfl, x1, x2⟩, hb⟩
  clear c0_bR c1_bR lt_bR
  replace hk := hk.stp hb
  replace hB := bel_stp hB hb
  replace rl := rl.stp hb
  replace rg := rg.stp hb
  replace bR := bR.stp hb
  clear hb
  have bX := Duo.new w3 24 (.slice a3 L2.length c3) (.slice a4 G2.length c4)
  have c0_bR := bR.cell0
  have c1_bR := bR.cell1
  have lt_bR := bR.lt
  have c0_bX := bX.cell0
  have c1_bX := bX.cell1
  have lt_bX := bX.lt
  go_wp2_with fail
  refine (day_c _ _ live gone a _ (rl.alloc _) (rg.alloc _) (by omega) (by omega)).mono ?_; rintro e w4 ⟨⟨d1, a5, m5, c5, z1, rfl, y1⟩, hb⟩
  clear c0_bR c1_bR lt_bR c0_bX c1_bX lt_bX
  replace hk := (hk.alloc _).stp hb
  replace hB := bel_stp (bel_alloc hB _) hb
  replace rl := (rl.alloc _).stp hb
  replace rg := (rg.alloc _).stp hb
  replace bR := (bR.alloc _).stp hb
  replace x1 := (x1.alloc _).stp hb
  replace x2 := (x2.alloc _).stp hb
  replace bX := bX.stp hb
  clear hb
  have bC := Duo.new w4 32 (.int .i64 d1) (.slice a5 m5 c5)
  have c0_bX := bX.cell0
  have c1_bX := bX.cell1
  have lt_bX := bX.lt
  have c0_bC := bC.cell0
  have c1_bC := bC.cell1
  have lt_bC := bC.lt
  go_wp2_with fail
  refine (day_c _ _ L2 G2 b _ (x1.alloc _) (x2.alloc _) (by omega) (by omega)).mono ?_; rintro e w5 ⟨⟨d2, a6, m6, c6, z2, rfl, y2⟩, hb⟩
  clear c0_bX c1_bX lt_bX c0_bC c1_bC lt_bC
  replace hk := (hk.alloc _).stp hb
  replace hB := bel_stp (bel_alloc hB _) hb
  replace rl := (rl.alloc _).stp hb
  replace rg := (rg.alloc _).stp hb
  replace bR := (bR.alloc _).stp hb
  replace x1 := (x1.alloc _).stp hb
  replace x2 := (x2.alloc _).stp hb
  replace bX := (bX.alloc _).stp hb
  replace y1 := (y1.alloc _).stp hb
  replace bC := bC.stp hb
  clear hb
  have bD := Duo.new w5 32 (.int .i64 d2) (.slice a6 m6 c6)
  by_cases hE0 : E = 0
  case neg =>
    go_wp2_with fail
    go_ret
    exact ⟨rfl, (bel_alloc hB _)⟩
  subst hE0
  by_cases hZ1 : z1 = 0
  case neg =>
    go_wp2_with fail
    go_ret
    exact ⟨rfl, (bel_alloc hB _)⟩
  subst hZ1
  by_cases hZ2 : z2 = 0
  case neg =>
    go_wp2_with fail
    go_ret
    exact ⟨rfl, (bel_alloc hB _)⟩
  subst hZ2
  have c0_bC := bC.cell0
  have c1_bC := bC.cell1
  have lt_bC := bC.lt
  replace hk := hk.alloc (.cells #[.int .i64 d2, .slice a6 m6 c6] 32)
  replace hB := bel_alloc hB (.cells #[.int .i64 d2, .slice a6 m6 c6] 32)
  replace rl := rl.alloc (.cells #[.int .i64 d2, .slice a6 m6 c6] 32)
  replace rg := rg.alloc (.cells #[.int .i64 d2, .slice a6 m6 c6] 32)
  replace bR := bR.alloc (.cells #[.int .i64 d2, .slice a6 m6 c6] 32)
  replace x1 := x1.alloc (.cells #[.int .i64 d2, .slice a6 m6 c6] 32)
  replace x2 := x2.alloc (.cells #[.int .i64 d2, .slice a6 m6 c6] 32)
  replace bX := bX.alloc (.cells #[.int .i64 d2, .slice a6 m6 c6] 32)
  replace y1 := y1.alloc (.cells #[.int .i64 d2, .slice a6 m6 c6] 32)
  replace bC := bC.alloc (.cells #[.int .i64 d2, .slice a6 m6 c6] 32)
  replace y2 := y2.alloc (.cells #[.int .i64 d2, .slice a6 m6 c6] 32)
  obtain ⟨V6, hV⟩ : ∃ V, World.alloc w5 (.cells #[.int .i64 d2, .slice a6 m6 c6] 32) = V := ⟨_, rfl⟩
  rw [hV] at hk hB rl rg bR x1 x2 bX y1 bC y2 bD
  have HV := Lib.hid hV
  clear hV
  obtain ⟨xs, hd1, rfl, rfl, s1⟩ := y1 rfl
  obtain ⟨ys, hd2, rfl, rfl, s2⟩ := y2 rfl
  have hr2 := Rv.revR_zero HE.out
  rw [HR.out] at hr2
  cases hr2
  obtain ⟨f1, f2, f3, f4, f5⟩ := next_has HE.out hd1 hd2
  clear y1 y2 hd1 hd2
  have F1 := Lib.hid f1; have F2 := Lib.hid f2; have F3 := Lib.hid f3; have F4 := Lib.hid f4; have F5 := Lib.hid f5
  clear f1 f2 f3 f4 f5
  clear bX x1 x2
  obtain ⟨P, hP⟩ : ∃ P, Cm.deltaR a xs b ys = P := ⟨_, rfl⟩
  have HP := Lib.hid hP
  clear hP
  go_wp2_with fail
  (try rw [HV.out])
  (try go_wp2_with fail)
  refine (CDelta_any a b _ _ xs ys _ hk s1 s2 (by have := F4.out; omega) (by have := F5.out; omega)).mono ?_; rintro e w6 ⟨hres, hb⟩
  clear c0_bC c1_bC lt_bC
  replace hk := hk.stp hb
  replace hB := bel_stp hB hb
  replace rl := rl.stp hb
  replace rg := rg.stp hb
  replace bR := bR.stp hb
  replace bC := bC.stp hb
  replace bD := bD.stp hb
  replace s1 := s1.stp hb
  replace s2 := s2.stp hb
  clear hb
  clear HV
  rw [HP.out] at hres
  cases P
  case error cc =>
    obtain rfl : e = _ := hres
    have hcc : ¬ cc = 0 := deltaR_err HP.out
    go_wp2_with fail
    go_ret
    exact ⟨rfl, hB⟩
  rename_i L
  obtain ⟨a7, c7, rfl, rb⟩ := hres
  obtain ⟨hap, hLl⟩ := next_apply HP.out
  have HAp := Lib.hid hap; have HLl := Lib.hid hLl
  clear hap hLl
  have c0_bC := bC.cell0
  have c1_bC := bC.cell1
  have lt_bC := bC.lt
  go_wp2_with fail
  refine (CApply_any a _ _ xs L _ hk s1 rb (by have := F4.out; omega) (by have := HLl.out; omega)).mono ?_; rintro e w7 ⟨hres, hb⟩
  clear c0_bC c1_bC lt_bC
  replace hk := hk.stp hb
  replace hB := bel_stp hB hb
  replace rl := rl.stp hb
  replace rg := rg.stp hb
  replace bR := bR.stp hb
  replace bC := bC.stp hb
  replace bD := bD.stp hb
  replace s1 := s1.stp hb
  replace s2 := s2.stp hb
  replace rb := rb.stp hb
  clear hb
  rw [HAp.out] at hres
  obtain ⟨a8, c8, rfl, s3⟩ := hres
  have bY := Duo.new w7 32 (.int .i64 b) (.slice a8 ys.length c8)
  clear rb
  have c0_bD := bD.cell0
  have c1_bD := bD.cell1
  have lt_bD := bD.lt
  replace hk := hk.alloc (.cells #[.int .i64 b, .slice a8 ys.length c8] 32)
  replace hB := bel_alloc hB (.cells #[.int .i64 b, .slice a8 ys.length c8] 32)
  replace rl := rl.alloc (.cells #[.int .i64 b, .slice a8 ys.length c8] 32)
  replace rg := rg.alloc (.cells #[.int .i64 b, .slice a8 ys.length c8] 32)
  replace bR := bR.alloc (.cells #[.int .i64 b, .slice a8 ys.length c8] 32)
  replace bC := bC.alloc (.cells #[.int .i64 b, .slice a8 ys.length c8] 32)
  replace bD := bD.alloc (.cells #[.int .i64 b, .slice a8 ys.length c8] 32)
  replace s1 := s1.alloc (.cells #[.int .i64 b, .slice a8 ys.length c8] 32)
  replace s2 := s2.alloc (.cells #[.int .i64 b, .slice a8 ys.length c8] 32)
  replace s3 := s3.alloc (.cells #[.int .i64 b, .slice a8 ys.length c8] 32)
  obtain ⟨V8, hV⟩ : ∃ V, World.alloc w7 (.cells #[.int .i64 b, .slice a8 ys.length c8] 32) = V := ⟨_, rfl⟩
  rw [hV] at hk hB rl rg bR bC bD s1 s2 s3 bY
  have HV := Lib.hid hV
  clear hV
  go_wp2_with fail
  (try rw [HV.out])
  (try go_wp2_with fail)
  refine (CSame_any b b ys ys _ _ _ s3 s2).mono ?_; rintro e w8 ⟨rfl, hb⟩
  clear c0_bD c1_bD lt_bD
  replace hk := hk.stp hb
  replace hB := bel_stp hB hb
  replace rl := rl.stp hb
  replace rg := rg.stp hb
  replace bR := bR.stp hb
  replace bC := bC.stp hb
  replace bD := bD.stp hb
  replace s1 := s1.stp hb
  replace s2 := s2.stp hb
  replace s3 := s3.stp hb
  replace bY := bY.stp hb
  clear hb
  rw [decide_eq_true ⟨rfl, rfl⟩]
  have c0_bY := bY.cell0
  have c1_bY := bY.cell1
  have lt_bY := bY.lt
  go_wp2_with fail
  refine (CHas_any b _ ys n _ s3 (by have := F5.out; omega)).mono ?_; rintro e w9 ⟨rfl, hb⟩
  clear c0_bY c1_bY lt_bY
  replace hk := hk.stp hb
  replace hB := bel_stp hB hb
  replace rl := rl.stp hb
  replace rg := rg.stp hb
  replace bR := bR.stp hb
  replace bC := bC.stp hb
  replace bD := bD.stp hb
  replace s1 := s1.stp hb
  replace s2 := s2.stp hb
  replace s3 := s3.stp hb
  replace bY := bY.stp hb
  clear hb
  rw [F1.out]
  have c0_bC := bC.cell0
  have c1_bC := bC.cell1
  have lt_bC := bC.lt
  go_wp2_with fail
  refine (CHas_any a _ xs n _ s1 (by have := F4.out; omega)).mono ?_; rintro e w10 ⟨rfl, hb⟩
  clear c0_bC c1_bC lt_bC
  replace hk := hk.stp hb
  replace hB := bel_stp hB hb
  replace rl := rl.stp hb
  replace rg := rg.stp hb
  replace bR := bR.stp hb
  replace bC := bC.stp hb
  replace bD := bD.stp hb
  replace s1 := s1.stp hb
  replace s2 := s2.stp hb
  replace s3 := s3.stp hb
  replace bY := bY.stp hb
  clear hb
  rw [F2.out]
  go_wp2_with fail
  clear hk
  clear HV
  go_loopw [20] (fun i wr => ∃ k : Nat, k ≤ live.length ∧ i = .int .i64 k ∧ Below w10.heap.size w10 wr) (fun i _ => live.length - (intOf i).toNat)
  case atStart => exact ⟨0, Nat.zero_le _, rfl, Below.refl _ _⟩
  case round =>
    obtain ⟨k, hk, rfl, hb⟩ := hrel
    have hK := Lib.hid hb
    replace hB := bel_stp hB hb
    replace rl := rl.stp hb
    replace rg := rg.stp hb
    replace bR := bR.stp hb
    replace bC := bC.stp hb
    replace bD := bD.stp hb
    replace s1 := s1.stp hb
    replace s2 := s2.stp hb
    replace s3 := s3.stp hb
    replace bY := bY.stp hb
    clear hb
    have k0 : (0 : Int) ≤ (k : Int) := by omega
    have e1 : IntKind.i64.wrap ((k : Int) + 1) = (k : Int) + 1 := IntWalk.i64_in _ (by omega)
    have HB := Lib.hid hB
    have RL := Lib.hid rl; have S1 := Lib.hid s1; have S3 := Lib.hid s3
    clear rl rg hB s1 s2 s3 bD
    by_cases hlt : k < live.length
    case neg =>
      obtain rfl : k = live.length := by omega
      clear hlt
      have c0_bR := bR.cell0
      have c1_bR := bR.cell1
      have lt_bR := bR.lt
      go_wp2_with fail
      go_ret
      exact ⟨rfl, HB.out⟩
    have k1 : (k : Int) < (live.length : Int) := by omega
    obtain ⟨_, _, e', _, _, _, _, h5⟩ := RL.out
    cases e'
    obtain ⟨b9, o9, e9, hb9, hc9⟩ := h5 (by rintro rfl; simp at hlt)
    cases e9
    have hck := hc9 k hlt
    obtain ⟨m, hx⟩ : ∃ x, live[k]?.getD 0 = x := ⟨_, rfl⟩
    rw [hx] at hck
    have hm : m ∈ live := mem_at hlt hx
    clear hc9 h5 hx hb9
    by_cases hmn : m = n
    case pos =>
      subst hmn
      clear hm
      have c0_bC := bC.cell0
      have c1_bC := bC.cell1
      have lt_bC := bC.lt
      have c0_bR := bR.cell0
      have c1_bR := bR.cell1
      have lt_bR := bR.lt
      have c0_bY := bY.cell0
      have c1_bY := bY.cell1
      have lt_bY := bY.lt
      have q_c0_bC := cell_regrown c0_bC
      have q_c1_bC := cell_regrown c1_bC
      have q_c0_bR := cell_regrown c0_bR
      have q_c1_bR := cell_regrown c1_bR
      have q_c0_bY := cell_regrown c0_bY
      have q_c1_bY := cell_regrown c1_bY
      have q_hck := cell_regrown hck
      go_wp2_with fail
      (try rw [hV])
      refine wp_region_quiet_below (by kernel_rfl) (by kernel_rfl) ?_
      repeat (go_big_quiet_step (first | fail))
      refine wpQuiet_nil ?_
      intro _ hw'
      obtain ⟨⟨dq, osq⟩, hw''⟩ := hw'
      subst hw''
      go_wp2_with fail
      go_roundw
      case rel => exact ⟨k + 1, by omega, by go_num, hK.out.trans ((below_regrown wr dq osq).mono hK.out.size)⟩
      case measure => simp [intOf]; omega
    have hy := F3.out m hm hmn
    obtain ⟨y, hy1⟩ : ∃ y, Cm.has a xs m = y := ⟨_, rfl⟩
    rw [hy1] at hy
    have Y1 := Lib.hid hy1; have Y2 := Lib.hid hy
    clear hy hy1 hm
    have hmn2 : (m == n) = false := by simpa using hmn
    have hmn3 : (m != n) = true := by simpa using hmn
    have hmn4 : decide (m = n) = false := by simpa using hmn
    cases y
    case false =>
      have c0_bC := bC.cell0
      have c1_bC := bC.cell1
      have lt_bC := bC.lt
      have c0_bR := bR.cell0
      have c1_bR := bR.cell1
      have lt_bR := bR.lt
      have c0_bY := bY.cell0
      have c1_bY := bY.cell1
      have lt_bY := bY.lt
      have q_c0_bC := cell_regrown c0_bC
      have q_c1_bC := cell_regrown c1_bC
      have q_c0_bR := cell_regrown c0_bR
      have q_c1_bR := cell_regrown c1_bR
      have q_c0_bY := cell_regrown c0_bY
      have q_c1_bY := cell_regrown c1_bY
      have q_hck := cell_regrown hck
      have q1 : ∀ d os, Calls Tryz.prog 11 #[.agg #[.int .i64 b, .slice a8 ys.length c8], .int .i64 m] (grow (redrawn wr d) os) fun e w'' => e = .returned (.bool false) ∧ ∃ p : Regrown, w'' = grow (redrawn wr p.d) p.os := fun d os => Calls.regrown_of (by have bw := below_regrown wr d os; exact (CHas_any b _ ys m _ (S3.out.below bw) (by have := F5.out; omega)).mono (fun _ _ h => ⟨by rw [h.1, Y2.out], h.2⟩))
      have q2 : ∀ d os, Calls Tryz.prog 11 #[.agg #[.int .i64 a, .slice a5 xs.length c5], .int .i64 m] (grow (redrawn wr d) os) fun e w'' => e = .returned (.bool false) ∧ ∃ p : Regrown, w'' = grow (redrawn wr p.d) p.os := fun d os => Calls.regrown_of (by have bw := below_regrown wr d os; exact (CHas_any a _ xs m _ (S1.out.below bw) (by have := F4.out; omega)).mono (fun _ _ h => ⟨by rw [h.1, Y1.out], h.2⟩))
      go_wp2_with fail
      (try rw [hV])
      refine wp_region_quiet_below (by kernel_rfl) (by kernel_rfl) ?_
      repeat (go_big_quiet_step (first | with_reducible exact q1 _ _ | with_reducible exact q2 _ _))
      refine wpQuiet_nil ?_
      intro _ hw'
      obtain ⟨⟨dq, osq⟩, hw''⟩ := hw'
      subst hw''
      go_wp2_with fail
      go_roundw
      case rel => exact ⟨k + 1, by omega, by go_num, hK.out.trans ((below_regrown wr dq osq).mono hK.out.size)⟩
      case measure => simp [intOf]; omega
    case true =>
      have c0_bC := bC.cell0
      have c1_bC := bC.cell1
      have lt_bC := bC.lt
      have c0_bR := bR.cell0
      have c1_bR := bR.cell1
      have lt_bR := bR.lt
      have c0_bY := bY.cell0
      have c1_bY := bY.cell1
      have lt_bY := bY.lt
      have q_c0_bC := cell_regrown c0_bC
      have q_c1_bC := cell_regrown c1_bC
      have q_c0_bR := cell_regrown c0_bR
      have q_c1_bR := cell_regrown c1_bR
      have q_c0_bY := cell_regrown c0_bY
      have q_c1_bY := cell_regrown c1_bY
      have q_hck := cell_regrown hck
      have q1 : ∀ d os, Calls Tryz.prog 11 #[.agg #[.int .i64 b, .slice a8 ys.length c8], .int .i64 m] (grow (redrawn wr d) os) fun e w'' => e = .returned (.bool true) ∧ ∃ p : Regrown, w'' = grow (redrawn wr p.d) p.os := fun d os => Calls.regrown_of (by have bw := below_regrown wr d os; exact (CHas_any b _ ys m _ (S3.out.below bw) (by have := F5.out; omega)).mono (fun _ _ h => ⟨by rw [h.1, Y2.out], h.2⟩))
      have q2 : ∀ d os, Calls Tryz.prog 11 #[.agg #[.int .i64 a, .slice a5 xs.length c5], .int .i64 m] (grow (redrawn wr d) os) fun e w'' => e = .returned (.bool true) ∧ ∃ p : Regrown, w'' = grow (redrawn wr p.d) p.os := fun d os => Calls.regrown_of (by have bw := below_regrown wr d os; exact (CHas_any a _ xs m _ (S1.out.below bw) (by have := F4.out; omega)).mono (fun _ _ h => ⟨by rw [h.1, Y1.out], h.2⟩))
      go_wp2_with fail
      (try rw [hV])
      refine wp_region_quiet_below (by kernel_rfl) (by kernel_rfl) ?_
      repeat (go_big_quiet_step (first | with_reducible exact q1 _ _ | with_reducible exact q2 _ _))
      refine wpQuiet_nil ?_
      intro _ hw'
      obtain ⟨⟨dq, osq⟩, hw''⟩ := hw'
      subst hw''
      go_wp2_with fail
      go_roundw
      case rel => exact ⟨k + 1, by omega, by go_num, hK.out.trans ((below_regrown wr dq osq).mono hK.out.size)⟩
      case measure => simp [intOf]; omega
end Go.Proofs.YtikgdpfnpcfkkaaGreatDoor
end
