/-
  The walk of DerSeqs: a sequence is its items.
-/
import Derived.Test.YtpmiihmhfagfoaaDoorOp
import Derived.Test.YtpmiihmhfagfoaaDoorR5
import Derived.Test.YtpmiihmhfagfoaaDoorEx
namespace Go.Proofs.YtpmiihmhfagfoaaDoor
open Go.RowKit

theorem deeps_append (l m : List Dm.It) : Dm.deeps (l ++ m) = max (Dm.deeps l) (Dm.deeps m) := by
  induction l with
  | nil => simp [Dm.deeps]
  | cons x l ih => rw [List.cons_append, Dm.deeps, ih, Dm.deeps, Nat.max_assoc]
theorem deeps_take {l : List Dm.It} {k : Nat} (hk : k < l.length) : Dm.deeps (l.take (k + 1)) = max (Dm.deeps (l.take k)) (Dm.deep (l[k]?.getD Dm.no)) := by
  rw [List.take_add_one, List.getElem?_eq_getElem hk, deeps_append]
  simp [Dm.deeps]
theorem forms_of {l : List Dm.It} (h : ∀ x ∈ l, Dm.may 8 x = true) : Dm.forms l = true := by
  induction l with
  | nil => rfl
  | cons x l ih =>
    unfold Dm.forms
    rw [form_may (h x (by simp)), ih (fun y hy => h y (by simp [hy]))]; rfl
theorem seq_may {l : List Dm.It} (h : ∀ x ∈ l, Dm.may 8 x = true) : Dm.may 8 (.mk 48 [] l) = decide (Dm.deeps l < 8) := by
  rw [Dm.may_form, form_eq, deep_eq]
  show ((decide ((48 : Int) = 48) || l.isEmpty) && Dm.mayB 48 [] && Dm.forms l && decide (Dm.deeps l + 1 ≤ 8)) = _
  rw [forms_of h]
  exact decide_eq_decide.2 (by omega)
theorem putE_zero {x : Dm.It} (h : putE x = 0) : Dm.may 8 x = true ∧ Dm.len x ≤ 8192 ∧ putL x = Dm.bytes x := by
  unfold putE at h
  unfold putL
  split at h
  · next hm =>
    split at h
    · next h8 => exact ⟨hm, h8, by rw [if_pos hm, if_pos h8]⟩
    · cases h
  · cases h
theorem seq_bytes (l : List Dm.It) : Dm.bytes (.mk 48 [] l) = (48 :: Dm.lenB (Dm.lens l)) ++ Dm.cat l := by
  rw [bytes_eq]
  show [48] ++ Dm.lenB ([] ++ Dm.cat l).length ++ ([] ++ Dm.cat l) = _
  rw [List.nil_append, Dm.cat_len]; rfl
theorem seq_len (l : List Dm.It) : Dm.len (.mk 48 [] l) = 1 + (Dm.lenB (Dm.lens l)).length + Dm.lens l := by
  rw [← Dm.bytes_len, seq_bytes]; simp [Dm.cat_len]; omega

set_option maxRecDepth 100000 in
set_option maxHeartbeats 4000000 in
theorem DerSeqs_any (v : Value) (l : List Dm.It) (w : World) (hk : KindsAt w) (hl : ItsV w v l) (hw : Dm.wts l ≤ 1048576) :
    Calls Tryd.prog 9 #[v] w fun e w' => e = .returned (.bool true) ∧ Below w.heap.size w w' := by
  obtain ⟨a4, c4, rfl⟩ := hl.shape
  obtain ⟨n4, hn4⟩ : ∃ n, l.length = n := ⟨_, rfl⟩
  rw [hn4] at hl ⊢
  have hC1 := live07_true w hk
  have HK := Lib.hid hk; have HL := Lib.hid hl; have HN4 := Lib.hid hn4; have HW := Lib.hid hw
  clear hk hl hn4 hw
  go_enter Tryd.func9, Tryd.ntmps9
  go_wp2_with fail
  refine hC1.mono ?_; rintro e w1 ⟨rfl, hb⟩
  have HB1 := Lib.hid hb
  clear hC1 hb
  have hC2 := few_any _ l w1 (HL.out.below HB1.out) (by have := HW.out; omega)
  obtain ⟨F, hF⟩ : ∃ F, fewB l = F := ⟨_, rfl⟩
  rw [hF] at hC2
  have HF := Lib.hid hF
  clear hF
  go_wp2_with fail
  refine hC2.mono ?_; rintro e w2 ⟨rfl, hb⟩
  have hB2 := HB1.out.trans (hb.mono HB1.out.size)
  have HB2 := Lib.hid hB2
  clear hC2 hb hB2
  cases F with
  | false =>
    go_wp2_with fail
    go_ret
    exact ⟨rfl, HB2.out⟩
  | true =>
  have hfew := fewB_true HF.out
  have h12 : n4 ≤ 12 := by have := hfew.1; rw [HN4.out] at this; exact this
  have HSm := Lib.hid hfew.2
  clear hfew
  have acc0 : AccR w w2 (.slice none 0 0) [] := ⟨World.ownsRow_nil _ _ _ _, HB2.out⟩
  go_wp2_with fail
  go_loopw [3, 4, 5, 6, 7] (fun av dv i _ _ wr => ∃ k : Nat, i = .int .i64 k ∧ k ≤ n4 ∧ dv = .int .i64 (Dm.deeps (l.take k)) ∧ AccR w wr av (Dm.cat (l.take k)) ∧ (∀ x ∈ l.take k, Dm.may 8 x = true) ∧ Dm.lens (l.take k) ≤ 8192 * k) (fun _ _ i _ _ _ => 30 - (intOf i).toNat)
  case atStart => exact ⟨0, rfl, Nat.zero_le _, rfl, acc0, by simp, by simp [Dm.lens]⟩
  case round =>
    obtain ⟨k, rfl, hk, rfl, acc, hmays, hlens⟩ := hrel
    have k0 : (0 : Int) ≤ (k : Int) := by omega
    have AC := Lib.hid acc; have HMs := Lib.hid hmays; have HLs := Lib.hid hlens
    clear acc hmays hlens acc0
    by_cases hlt : k < n4
    · have k1 : (k : Int) < (n4 : Int) := by omega
      have e1 : IntKind.i64.wrap ((k : Int) + 1) = (k : Int) + 1 := IntWalk.i64_in _ (by omega)
      have hkl : k < l.length := by rw [HN4.out]; exact hlt
      have htk := cat_take hkl
      have hdk := deeps_take hkl
      obtain ⟨b, off, ab, cb, al, cl, rfl, hbl, x0, x1, x2, hp⟩ := HL.out.at_ k hkl
      have x0' := (AC.out.bel.cell (p := ⟨b, _, none⟩) hbl).trans x0
      have x1' := (AC.out.bel.cell (p := ⟨b, _, none⟩) hbl).trans x1
      have x2' := (AC.out.bel.cell (p := ⟨b, _, none⟩) hbl).trans x2
      have hmem : l[k]?.getD Dm.no ∈ l := by rw [List.getElem?_eq_getElem hkl]; exact List.getElem_mem _
      have hsuc : l.take (k + 1) = l.take k ++ [l[k]?.getD Dm.no] := by rw [List.take_add_one, List.getElem?_eq_getElem hkl]; rfl
      obtain ⟨y, hy⟩ : ∃ y, l[k]?.getD Dm.no = y := ⟨_, rfl⟩
      rw [hy] at x0 x1 x2 x0' x1' x2' hp htk hdk hmem hsuc
      have hwy := HSm.out y hmem
      have hC := Put_row y (by omega) _ _ wr (HK.out.below AC.out.bel) (hp.below AC.out.bel)
      have hD := fun W (h : Below w.heap.size w W) => Deep_any y W _ _ (hp.below h) (by omega)
      have HX0 := Lib.hid x0; have HX1 := Lib.hid x1; have HX2 := Lib.hid x2; have HBl := Lib.hid hbl
      have HTK := Lib.hid htk; have HDK := Lib.hid hdk; have HSU := Lib.hid hsuc; have HDD := Lib.hid hD
      have hzy := fun hm => hp.bytes (form_may (x := y) hm)
      have HZY := Lib.hid hzy
      clear htk hdk hy hmem hp hsuc hD hwy hzy x0 x1 x2 hbl
      by_cases hE : putE y = 0
      case neg =>
        have hE' : (putE y != 0) = true := by simpa using hE
        obtain ⟨E, hEe⟩ : ∃ E, putE y = E := ⟨_, rfl⟩
        rw [hEe] at hC hE'
        go_wp2_with fail
        refine hC.mono ?_; rintro e w3 ⟨⟨a3, c3, rfl, -⟩, hb⟩
        have hB3 := AC.out.bel.trans (hb.mono AC.out.bel.size)
        clear hC hb
        go_wp2_with fail
        go_ret
        exact ⟨rfl, hB3⟩
      obtain ⟨hm, h8, hpl⟩ := putE_zero hE
      rw [hE, hpl, Dm.bytes_len] at hC
      have hle : (Dm.cat (l.take k)).length + (Dm.bytes y).length ≤ 10000000 := by rw [Dm.cat_len, Dm.bytes_len]; have := HLs.out; omega
      have hls2 : Dm.lens (l.take (k + 1)) ≤ 8192 * (k + 1) := by
        rw [HSU.out, lens_append]; have := HLs.out; simp only [Dm.lens]; omega
      have hms2 : ∀ x ∈ l.take (k + 1), Dm.may 8 x = true := fun x hx => by
        rw [HSU.out] at hx
        rcases List.mem_append.1 hx with h | h
        · exact HMs.out x h
        · rw [List.mem_singleton.1 h]; exact hm
      have HLe := Lib.hid hle; have HLS2 := Lib.hid hls2; have HMS2 := Lib.hid hms2
      obtain ⟨Ly, hLy⟩ : ∃ n, Dm.len y = n := ⟨_, rfl⟩
      rw [hLy] at hC
      clear hle hls2 hms2 hpl hE hm h8
      go_wp2_with fail
      refine hC.mono ?_; rintro e w3 ⟨⟨a3, c3, rfl, r3⟩, hb⟩
      have A3 := Lib.hid (AC.out.stp hb); have R3 := Lib.hid r3
      clear hC hb r3 x0' x1' x2' hLy
      go_wp2_with (first
        | (at_builtin; refine wpList_plain rfl fun Kx hKx => ?_; refine wp_app (.tmp 34) (.tmp 35) rfl w.heap.size A3.out.bel.size _ _ rfl A3.out.own _ (Dm.bytes y) R3.out rfl HLe.out ?_; intro u4 w4 ap4
           have A4 := Lib.hid (A3.out.app ap4)
           have x0 := (A4.out.bel.cell (p := ⟨b, _, none⟩) HBl.out).trans HX0.out
           have x1 := (A4.out.bel.cell (p := ⟨b, _, none⟩) HBl.out).trans HX1.out
           have x2 := (A4.out.bel.cell (p := ⟨b, _, none⟩) HBl.out).trans HX2.out
           refine hKx _ _ ?_; clear ap4)
        | fail)
      refine (HDD.out w4 A4.out.bel).mono ?_; rintro e w5 ⟨rfl, hb⟩
      have hA5 := A4.out.stp hb
      rw [← HTK.out] at hA5
      have A5 := Lib.hid hA5
      have emx : max (Dm.deeps (l.take k) : Int) (Dm.deep y : Int) = ((max (Dm.deeps (l.take k)) (Dm.deep y) : Nat) : Int) := by omega
      clear hb hA5 x0 x1 x2
      go_wp2_with fail
      go_roundw
      case rel => exact ⟨k + 1, by go_num, by omega, by rw [HDK.out], A5.out, HMS2.out, HLS2.out⟩
      case measure => simp [intOf]; omega
    · obtain rfl : k = n4 := by omega
      have htl : l.take k = l := List.take_of_length_le (by rw [HN4.out]; exact Nat.le_refl _)
      rw [htl] at AC HMs
      rw [htl]
      have hp0 : ItP w (.slice none 0 0) (.slice a4 k c4) (.mk 48 [] l) := ⟨(show (Lit.int .i64 48).wf = true by decide), Row.nil _ _, HL.out⟩
      have hfm : Dm.form (.mk 48 [] l) = true := by
        rw [form_eq]
        show ((decide ((48 : Int) = 48) || l.isEmpty) && Dm.mayB 48 [] && Dm.forms l) = true
        rw [forms_of HMs.out]; rfl
      have hzb := hp0.bytes hfm
      have hzc : ∀ z ∈ Dm.cat l, byte z := fun z hz => hzb z (by rw [seq_bytes]; exact List.mem_append_right _ hz)
      have hrow := Row.of_bytes AC.out.own hzc
      obtain ⟨nA, hnA⟩ : ∃ n, Dm.lens l = n := ⟨_, rfl⟩
      obtain ⟨aA, cA, rfl⟩ := hrow.shape nA (by rw [Dm.cat_len]; exact hnA)
      have hsm := seq_may HMs.out
      have hsl := seq_len l
      have hsb := seq_bytes l
      rw [hnA] at hsl hsb
      obtain ⟨D, hD⟩ : ∃ D, Dm.deeps l = D := ⟨_, rfl⟩
      rw [hD] at hsm
      rw [hD]
      have hwx : Dm.wt (.mk 48 [] l) ≤ 400000 := by
        have h1 : ∀ m : List Dm.It, (∀ x ∈ m, Dm.wt x ≤ 9000) → Dm.wts m ≤ 9000 * m.length := by
          intro m
          induction m with
          | nil => intro _; simp [Dm.wts]
          | cons y m ih =>
            intro h
            have := h y (by simp)
            have := ih (fun z hz => h z (by simp [hz]))
            simp only [Dm.wts, List.length_cons]; omega
        have h2 := h1 l HSm.out
        rw [HN4.out] at h2
        rw [Dm.wt_eq]
        show 2 + 0 + Dm.wts l ≤ 400000
        omega
      have hlbl := Dm.lenB_length nA
      obtain ⟨lb, hlb⟩ : ∃ n, (Dm.lenB nA).length = n := ⟨_, rfl⟩
      rw [hlb] at hsl
      have hlb2 : 1 ≤ lb ∧ lb ≤ 3 := by rw [← hlb, hlbl]; split <;> (try split) <;> omega
      have hC3 := Seq_mk _ l wr (HL.out.below AC.out.bel) (by rw [HN4.out]; omega)
      rw [HN4.out] at hC3
      have HRow := Lib.hid hrow; have HSM := Lib.hid hsm; have HSL := Lib.hid hsl; have HSB := Lib.hid hsb; have HWX := Lib.hid hwx; have HLB := Lib.hid hlb; have HZB := Lib.hid hzb; have HNA := Lib.hid hnA
      have HB := Lib.hid AC.out.bel
      clear hp0 hfm hzb hzc hrow hsm hsl hsb hwx hlbl hlb htl hnA hD
      go_wp2_with fail
      refine hC3.mono ?_; rintro e w3 ⟨⟨a5, c5, rfl, p5⟩, hb⟩
      have hB3 := HB.out.trans (hb.mono HB.out.size)
      have p6 := p5.alloc (.cells #[.int .i64 48, .slice none 0 0, .slice a5 k c5] 25)
      have hB4 := hB3.alloc hB3.size (.cells #[.int .i64 48, .slice none 0 0, .slice a5 k c5] 25)
      have q4 := Trip.new w3 25 (.int .i64 48) (.slice none 0 0) (.slice a5 k c5)
      have hC4 := Put_row (.mk 48 [] l) HWX.out _ _ _ (HK.out.below hB4) p6
      have r4 := ((HRow.out.below hb).alloc (.cells #[.int .i64 48, .slice none 0 0, .slice a5 k c5] 25))
      obtain ⟨P, hP⟩ : ∃ P, putL (.mk 48 [] l) = P := ⟨_, rfl⟩
      obtain ⟨E, hE⟩ : ∃ E, putE (.mk 48 [] l) = E := ⟨_, rfl⟩
      rw [hP, hE] at hC4
      have hC4' : Calls Tryd.prog 14 #[.agg #[.int .i64 48, .slice none 0 0, .slice a5 k c5]] (w3.alloc (.cells #[.int .i64 48, .slice none 0 0, .slice a5 k c5] 25)) fun e w' => (∃ a c, e = .returned (.tuple #[.slice a P.length c, .int .i64 E]) ∧ Row .u8 w' (.slice a P.length c) P) ∧ Below (w3.alloc (.cells #[.int .i64 48, .slice none 0 0, .slice a5 k c5] 25)).heap.size (w3.alloc (.cells #[.int .i64 48, .slice none 0 0, .slice a5 k c5] 25)) w' := hC4
      have HP6 := Lib.hid p6; have HB4 := Lib.hid hB4; have Q4 := Lib.hid q4; have R4 := Lib.hid r4; have HPe := Lib.hid hP; have HEe := Lib.hid hE
      obtain ⟨nP, hnP⟩ : ∃ n, P.length = n := ⟨_, rfl⟩
      rw [hnP] at hC4'
      have HNP := Lib.hid hnP
      clear hC3 hC4 hb hB3 p5 p6 hB4 q4 r4 hP hE hnP
      go_wp2_with fail
      refine hC4'.mono ?_; rintro e w5 ⟨⟨a6, c6, rfl, r6⟩, hb⟩
      have hB5 := HB4.out.trans (hb.mono HB4.out.size)
      have q5 := trip_stp Q4.out hb
      have c0 := q5.cell0; have c1 := q5.cell1; have c2 := q5.cell2
      have HB5 := Lib.hid hB5; have R6 := Lib.hid r6; have R5 := Lib.hid (R4.out.below hb); have HP7 := Lib.hid (HP6.out.below hb)
      clear hC4' hb hB5 q5 r6
      by_cases hD8 : 8 ≤ D
      · have hE1 : E = 1 := by rw [← HEe.out, putE, if_neg (by rw [HSM.out]; simp; omega)]
        have hD8' : (8 : Int) ≤ (D : Int) := by omega
        subst hE1
        go_wp2_with fail
        go_ret
        exact ⟨rfl, HB5.out⟩
      have hD8' : ¬ (8 : Int) ≤ (D : Int) := by omega
      have hmx : Dm.may 8 (.mk 48 [] l) = true := by rw [HSM.out]; exact decide_eq_true (by omega)
      by_cases h8 : Dm.len (.mk 48 [] l) ≤ 8192
      case neg =>
        have hE1 : E = 2 := by rw [← HEe.out, putE, if_pos hmx, if_neg h8]
        have hA8 : (8188 : Int) < (nA : Int) := by have := HSL.out; omega
        subst hE1
        go_wp2_with fail
        go_ret
        exact ⟨rfl, HB5.out⟩
      have hE1 : E = 0 := by rw [← HEe.out, putE, if_pos hmx, if_pos h8]
      have hP1 : P = Dm.bytes (.mk 48 [] l) := by rw [← HPe.out, putL, if_pos hmx, if_pos h8]
      have hnP1 : nP = 1 + lb + nA := by rw [← HNP.out, hP1, Dm.bytes_len]; exact HSL.out
      have hnA8 : nA ≤ 8192 := by rw [HSL.out] at h8; omega
      have hC5 := AsSeq_val (.mk 48 [] l) _ _ w5 (HK.out.below HB5.out) HP7.out (by have := HWX.out; omega)
      have hE48 : asE (.mk 48 [] l) 48 = 0 := by
        show (if (48 : Int) = 48 then (if Dm.may 8 (.mk 48 [] l) then 0 else 71) else 72) = 0
        rw [if_pos rfl, hmx]; rfl
      have hsv : seqV (.mk 48 [] l) = l := by unfold seqV; rw [if_pos hE48]; rfl
      simp only [hE48, hsv, HN4.out] at hC5
      have hC5' : Calls Tryd.prog 25 #[.agg #[.int .i64 48, .slice none 0 0, .slice a5 k c5]] w5 fun e w' => (∃ a c, e = .returned (.tuple #[.slice a k c, .int .i64 0]) ∧ ItsV w' (.slice a k c) l) ∧ Below w5.heap.size w5 w' := hC5
      subst hE1
      have HP1 := Lib.hid hP1
      clear hC5 hmx h8 hE48 hsv hP1
      go_wp2_with fail
      refine hC5'.mono ?_; rintro e w6 ⟨⟨a7, c7, rfl, -⟩, hb⟩
      have hB6 := HB5.out.trans (hb.mono HB5.out.size)
      have r8 := R6.out.below hb
      have r9 := R5.out.below hb
      rw [HP1.out, HSB.out] at r8
      have hlenP : ((48 :: Dm.lenB nA) ++ Dm.cat l).length = nP := by rw [← HSB.out, Dm.bytes_len, HSL.out, hnP1]
      have hcatl : (Dm.cat l).length = nA := by rw [Dm.cat_len]; exact HNA.out
      obtain ⟨b6, o6, rfl, -, y0⟩ := r8.cellAt 0 (by rw [hlenP]; omega)
      obtain ⟨_, _, e', -, y1⟩ := r8.cellAt 1 (by rw [hlenP]; omega)
      cases e'
      have hlc : nP ≤ c6 := by obtain ⟨_, _, e', hc, _⟩ := r8; cases e'; rw [hlenP] at hc; exact hc
      have y0' : w6.cell? ⟨b6, o6, none⟩ = some (.int .u8 48) := y0
      have kc2 := r9.convert
      have kd2 := r9.drew.convert
      have R8 := Lib.hid r8; have HLP := Lib.hid hlenP; have HCL := Lib.hid hcatl
      have y1' : nA < 128 → w6.cell? ⟨b6, o6 + 1, none⟩ = some (.int .u8 (nA : Int)) := fun h => by
        rw [y1]; unfold Dm.lenB; rw [if_pos h]; rfl
      subst hnP1
      have es : IntKind.i64.wrap (((1 + lb + nA : Nat) : Int) - (nA : Int)) = ((1 + lb : Nat) : Int) := (IntWalk.i64_in _ (by omega)).trans (by omega)
      have e2 : IntKind.i64.wrap ((nA : Int) + 2) = (nA : Int) + 2 := IntWalk.i64_in _ (by omega)
      have e4 : IntKind.i64.wrap ((nA : Int) + 4) = (nA : Int) + 4 := IntWalk.i64_in _ (by omega)
      have HB6 := Lib.hid hB6; have HY1 := Lib.hid y1'
      obtain ⟨nQ, hnQ⟩ : ∃ n, 1 + lb + nA = n := ⟨_, rfl⟩
      obtain ⟨d, hd⟩ : ∃ d, 1 + lb = d := ⟨_, rfl⟩
      rw [hnQ, hd] at es
      rw [hnQ] at R8 HLP
      rw [hnQ]
      have g1 : ¬ (nQ : Int) < (nA : Int) + 2 := by omega
      have g2 : ¬ (nA : Int) + 4 < (nQ : Int) := by omega
      have g3 : (0 : Int) ≤ (d : Int) := by omega
      have g4 : (d : Int) ≤ (nQ : Int) := by omega
      have g5 : d ≤ c6 := by omega
      have g6 : 0 < nQ := by omega
      have g7 : 1 < nQ := by omega
      clear hC5' hb hB6 r8 r9 hlenP hcatl y0 y1 y1' c0 c1 c2 R5 R6 HP7
      by_cases hcd : c6 = d
      · obtain rfl : nA = 0 := by omega
        obtain rfl : nQ = d := by omega
        subst hcd
        have hcn : Dm.cat l = [] := List.eq_nil_of_length_eq_zero HCL.out
        rw [hcn] at kc2 kd2
        have kc1 := fun W => (Row.empty .u8 W (some ⟨b6, o6, none⟩) 0 (by unfold maxLen; omega) (fun h => by cases h)).convert
        obtain ⟨S, hS⟩ : ∃ S, strOfNums [] = S := ⟨_, rfl⟩
        rw [hS] at kc2 kd2
        have hA' : decide ((128 : Int) ≤ ((0 : Nat) : Int)) = false := by decide
        have y1 := HY1.out (by decide)
        have kx := kc1 w6.drew
        go_wp2_with fail
        go_region
        all_goals
          go_wp2_with fail
          go_ret
          exact ⟨rfl, HB6.out.drew⟩
      have rc := Row.cut R8.out d (by rw [HLP.out]; omega) (by omega)
      rw [Option.map_some, addr_add, List.drop_left' (by rw [List.length_cons, HLB.out]; omega)] at rc
      have kc1 := rc.convert
      have kd1 := rc.drew.convert
      obtain ⟨S, hS⟩ : ∃ S, strOfNums (Dm.cat l) = S := ⟨_, rfl⟩
      rw [hS] at kc1 kc2 kd1 kd2
      clear rc hS
      by_cases hA : nA < 128
      · have hA' : decide ((128 : Int) ≤ (nA : Int)) = false := decide_eq_false (by omega)
        have y1 := HY1.out hA
        go_wp2_with fail
        go_region
        all_goals
          go_wp2_with fail
          go_ret
          exact ⟨rfl, HB6.out.drew⟩
      · have hA' : decide ((128 : Int) ≤ (nA : Int)) = true := decide_eq_true (by omega)
        go_wp2_with fail
        go_region
        all_goals
          go_wp2_with fail
          go_ret
          exact ⟨rfl, HB6.out.drew⟩
end Go.Proofs.YtpmiihmhfagfoaaDoor
