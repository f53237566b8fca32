/-
  The walk over greatsealref20.Read.
-/
import Derived.Test.YtiijlakilogekaaGe
import Derived.Test.YtiijlakilogekaaWn
import Derived.Test.YtiijlakilogekaaRa
import Derived.Test.YtiijlakilogekaaWy
namespace Go.Proofs.Ytiijlakilogekaa
open Go.RowKit

theorem i64_or_nat (a b : Nat) (ha : a < 9223372036854775808) (hb : b < 9223372036854775808) : bits .or .i64 (a : Int) (b : Int) = ((a ||| b : Nat) : Int) := by
  have hx : a ||| b < 2 ^ 63 := Nat.or_lt_two_pow (by omega) (by omega)
  have h1 : (BitVec.ofInt 64 (a : Int)).toNat = a := by
    rw [BitVec.ofInt_natCast, BitVec.toNat_ofNat]; exact Nat.mod_eq_of_lt (by omega)
  have h2 : (BitVec.ofInt 64 (b : Int)).toNat = b := by
    rw [BitVec.ofInt_natCast, BitVec.toNat_ofNat]; exact Nat.mod_eq_of_lt (by omega)
  show IntKind.i64.wrap ((BitVec.ofInt 64 (a : Int) ||| BitVec.ofInt 64 (b : Int)).toNat : Int) = _
  rw [BitVec.toNat_or, h1, h2, IntKind.wrap_i64]
  omega
theorem or_join (k : Nat) (x y : Int) (h0 : 0 ≤ x) (h1 : x < 4294967296) (hx : x % ((2 ^ k : Nat) : Int) = 0) (h2 : 0 ≤ y) (h3 : y < ((2 ^ k : Nat) : Int)) (hk : k ≤ 32) : bits BinOp.or IntKind.i64 x y = x + y := by
  obtain ⟨n, rfl⟩ := Int.eq_ofNat_of_zero_le h0
  obtain ⟨m, rfl⟩ := Int.eq_ofNat_of_zero_le h2
  have hp : 2 ^ k ≤ 2 ^ 32 := Nat.pow_le_pow_right (by omega) hk
  have h := i64_or_nat n m (by omega) (by omega)
  rw [nat_join k n m (by exact_mod_cast hx) (by exact_mod_cast h3)] at h
  rw [h]; simp

set_option maxRecDepth 100000 in
set_option maxHeartbeats 4000000 in
theorem RRead_any (v1 v2 : Value) (S O : List Int) (w : World) (rS : Row .u8 w v1 S) (rO : Row .u8 w v2 O) (n1 : S.length ≤ 40000) (n2 : O.length ≤ 40000) :
    Calls Try.prog 20 #[.agg #[v1, v2]] w fun e w' => ∃ r, e = .returned (.tuple #[r, .int .i64 (Wm.good (S ++ O) : Nat)]) ∧ Rws .u8 w' r (Wm.read (S ++ O)) ∧ Below w.heap.size w w' := by
  obtain ⟨i0, hi, hz0, hz1, hz2⟩ := info_parts info_row20
  obtain ⟨j0, gi, gz0, gz1, gz2⟩ := info_parts info_byte20
  obtain ⟨a1, c1, rfl⟩ := rS.shape S.length rfl
  obtain ⟨a2, c2, rfl⟩ := rO.shape O.length rfl
  have hby : ∀ x ∈ S ++ O, byte x := by
    intro x hx
    rcases List.mem_append.1 hx with h | h
    · exact rS.all_byte x h
    · exact rO.all_byte x h
  have hbl : (S ++ O).length ≤ 80000 := by simp; omega
  obtain ⟨b, hb⟩ : ∃ b, S ++ O = b := ⟨_, rfl⟩
  rw [hb] at hby hbl ⊢
  have HB := Lib.hid hb; have HBy := Lib.hid hby
  clear hb hby
  have dS := (Duo.new w 24 (.slice a1 S.length c1) (.slice a2 O.length c2)).alloc (.cells #[] 22)
  have hbw := bel_alloc (bel_alloc (Below.refl w.heap.size w) (.cells #[.slice a1 S.length c1, .slice a2 O.length c2] 24)) (.cells #[] 22)
  have r1 := (rS.alloc (.cells #[.slice a1 S.length c1, .slice a2 O.length c2] 24)).alloc (.cells #[] 22)
  have r2 := (rO.alloc (.cells #[.slice a1 S.length c1, .slice a2 O.length c2] 24)).alloc (.cells #[] 22)
  have o0 := owns_empty (w.alloc (.cells #[.slice a1 S.length c1, .slice a2 O.length c2] 24)) w.heap.size 22 (by simp)
  simp only [World.size_alloc] at o0
  have s0 := dS.cell0; have s1 := dS.cell1
  go_enter Try.func20, Try.ntmps20
  go_wp2_with fail
  refine (Rall_any _ _ S O _ r1 r2 (by omega) (by omega)).mono ?_; rintro e V ⟨r, rfl, ho, hb2⟩
  rw [HB.out] at ho
  have hbV := bel_stp hbw hb2
  have oV := owns_below o0 hb2
  have rb := owns_row ho HBy.out
  obtain ⟨ab, cb, rfl⟩ := rb.shape b.length rfl
  have hcb : b.length ≤ cb := by obtain ⟨_, _, e, h, _⟩ := rb; cases e; exact h
  have hlow := hbw.size
  clear s0 s1 dS r1 r2 hb2 o0 hbw
  go_wp2_with fail
  go_loopw [4, 6] (fun o i wr => ∃ (n : Nat) (ls : List (List Int)), i = .int .i64 n ∧ n ≤ b.length ∧ Hid (Wm.read b = ls ++ Wm.read (b.drop n) ∧ Wm.good b = n + Wm.good (b.drop n)) ∧ HoldsRws wr w.heap.size o ls ∧ wr.ownsRow w.heap.size 5 1 (.slice ab b.length cb) b.length (b.map (Value.int .u8)) ∧ Below w.heap.size w wr) (fun _ i _ => b.length - (intOf i).toNat)
  case atStart => exact ⟨0, [], rfl, Nat.zero_le _, Lib.hid ⟨by simp, by simp⟩, ⟨[], oV, fun i hi => absurd hi (Nat.not_lt_zero _)⟩, owns_low ho hlow, hbV⟩
  case round =>
    obtain ⟨n, ls, rfl, hn, HE, hls, hob, hbr⟩ := hrel
    have hr := owns_row hob HBy.out
    have Hob := Lib.hid hob
    clear oV rb hbV hob ho hlow
    have Hls := Lib.hid hls
    obtain ⟨vs, hv1, hv2⟩ := hls
    obtain ⟨ao, no, co, rfl⟩ := owns_slice hv1
    have en : IntKind.i64.wrap ((b.length : Int) - n) = (b.length : Int) - n := IntWalk.i64_in _ (by omega)
    obtain ⟨c, hc⟩ : ∃ c, b.drop n = c := ⟨_, rfl⟩
    have hcl : c.length = b.length - n := by rw [← hc]; simp
    have hcby : ∀ x ∈ c, byte x := by rw [← hc]; intro x hx; exact HBy.out x (List.mem_of_mem_drop hx)
    have hend : ¬ Wm.whole c → Wm.read b = ls ∧ Wm.good b = n := fun hw => Wm.read_end b n ls HE.out.1 HE.out.2 (by rw [hc]; exact hw)
    have HEnd := Lib.hid hend
    have hlsb : ∀ l ∈ ls, ∀ x ∈ l, byte x := fun l hl x hx => HBy.out x (Wm.read_mem b l (by rw [HE.out.1]; exact List.mem_append_left _ hl) x hx)
    have Hlsb := Lib.hid hlsb
    clear hlsb
    clear hend
    by_cases h20 : 20 ≤ c.length
    · have h20' : (20 : Int) ≤ (b.length : Int) - n := by omega
      obtain ⟨p, q, s, t, h4, q0, q1, q2, q3, bp, bq, bs, bt⟩ := four_bytes c h20 hcby
      have ht := Wm.told_four c p q s t h4
      have hg : ∀ i, i < c.length → b[n + i]?.getD 0 = c[i]?.getD 0 := fun i hi => by rw [← hc, List.getElem?_drop]
      obtain ⟨bb, ob, rfl, hbb, hcl0, -⟩ := hr.cellAt n (by omega)
      obtain ⟨_, _, e', -, hcl1, -⟩ := hr.cellAt (n + 1) (by omega); cases e'
      obtain ⟨_, _, e', -, hcl2, -⟩ := hr.cellAt (n + 2) (by omega); cases e'
      obtain ⟨_, _, e', -, hcl3, -⟩ := hr.cellAt (n + 3) (by omega); cases e'
      rw [show b[n]?.getD 0 = p by have := hg 0 (by omega); rw [Nat.add_zero] at this; rw [this, q0]] at hcl0
      rw [hg 1 (by omega), q1] at hcl1
      rw [hg 2 (by omega), q2] at hcl2
      rw [hg 3 (by omega), q3] at hcl3
      have ea1 : IntKind.i64.wrap ((n : Int) + 1) = (n : Int) + 1 := IntWalk.i64_in _ (by omega)
      have ea2 : IntKind.i64.wrap ((n : Int) + 2) = (n : Int) + 2 := IntWalk.i64_in _ (by omega)
      have ea3 : IntKind.i64.wrap ((n : Int) + 3) = (n : Int) + 3 := IntWalk.i64_in _ (by omega)
      unfold byte at bp bq bs bt
      have k0 : (n : Int) < (b.length : Int) := by omega
      have k1 : (n : Int) + 1 < (b.length : Int) := by omega
      have k2 : (n : Int) + 2 < (b.length : Int) := by omega
      have k3 : (n : Int) + 3 < (b.length : Int) := by omega
      obtain ⟨L, hL⟩ : ∃ L, Wm.long c = L := ⟨_, rfl⟩
      have h0 := Wm.told_nonneg c hcby
      have hTL : Wm.told c = (L : Int) := by rw [← hL]; unfold Wm.long; rw [Int.toNat_of_nonneg h0]
      have eo1 : bits BinOp.or IntKind.i64 (p * 16777216) (q * 65536) = p * 16777216 + q * 65536 := or_join 24 _ _ (by omega) (by omega) (by show p * 16777216 % 16777216 = 0; omega) (by omega) (by show q * 65536 < 16777216; omega) (by decide)
      have eo2 : bits BinOp.or IntKind.i64 (p * 16777216 + q * 65536) (s * 256) = p * 16777216 + q * 65536 + s * 256 := or_join 16 _ _ (by omega) (by omega) (by show (p * 16777216 + q * 65536) % 65536 = 0; omega) (by omega) (by show s * 256 < 65536; omega) (by decide)
      have eo3 : bits BinOp.or IntKind.i64 (p * 16777216 + q * 65536 + s * 256) t = (L : Int) := by rw [or_join 8 _ _ (by omega) (by omega) (by show (p * 16777216 + q * 65536 + s * 256) % 256 = 0; omega) (by omega) (by show t < 256; omega) (by decide), ← hTL, ht]; omega
      have hLb : (L : Int) < 4294967296 := by rw [← hTL, ht]; omega
      have HL := Lib.hid hL; have HTL := Lib.hid hTL
      have el1 : IntKind.i64.wrap ((L : Int) + 20) = (L : Int) + 20 := IntWalk.i64_in _ (by omega)
      clear hg q0 q1 q2 q3 hL hTL ht h0
      go_wp2_with fail
      go_region
      all_goals
        clear eo1 eo2 eo3 hcl0 hcl1 hcl2 hcl3 ea1 ea2 ea3 bp bq bs bt k0 k1 k2 k3 h4
        by_cases hbad : (4096 : Int) < (L : Int)
        · have hr20 := Lib.hid <| HEnd.out (fun h => by have := h.2.1; have := HTL.out; omega)
          go_wp2_with fail
          go_ret2
          exact ⟨.slice ao no co, (by rw [hr20.out.2]; rfl), (by rw [hr20.out.1]; exact HoldsRws.rws Hls.out Hlsb.out), hbr.drew⟩
        · by_cases hsh : (b.length : Int) - n < (L : Int) + 20
          · have hr20 := Lib.hid <| HEnd.out (fun h => by have := h.2.2.1; rw [HL.out] at this; omega)
            go_wp2_with fail
            go_ret2
            exact ⟨.slice ao no co, (by rw [hr20.out.2]; rfl), (by rw [hr20.out.1]; exact HoldsRws.rws Hls.out Hlsb.out), hbr.drew⟩
          · have hLn : n + L + 20 ≤ b.length := by omega
            have hX0 := hr.drop (n + 4) (by omega)
            have hX1 := hX0.take L (by simp; omega)
            have hC0 := hr.drop n (by omega)
            have hC1 := hC0.take (L + 20) (by simp; omega)
            have hXe : (b.drop (n + 4)).take L = (c.drop 4).take (Wm.long c) := by rw [HL.out, ← hc, List.drop_drop]
            have hwh := Wm.whole_iff c h20 hcby (by rw [HTL.out]; omega) (by rw [HL.out]; omega)
            have hra := fun hw => Wm.read_at b n ls HE.out.1 HE.out.2 (show Wm.whole (b.drop n) by rw [hc]; exact hw)
            rw [hc] at hra
            rw [← hXe, HL.out] at hwh hra
            rw [hc] at hC1
            obtain ⟨X, hX⟩ : ∃ X, (b.drop (n + 4)).take L = X := ⟨_, rfl⟩
            obtain ⟨C, hC⟩ : ∃ C, c.take (L + 20) = C := ⟨_, rfl⟩
            rw [hX] at hX1 hwh hra
            rw [hC] at hC1 hwh
            have hXl : X.length = L := by rw [← hX]; simp; omega
            have hXb : ∀ x ∈ X, byte x := by rw [← hX]; intro x hx; exact HBy.out x (List.mem_of_mem_drop (List.mem_of_mem_take hx))
            have hCb : ∀ x ∈ C, byte x := by rw [← hC]; intro x hx; exact hcby x (List.mem_of_mem_take hx)
            have HWh := Lib.hid hwh; have HRa := Lib.hid hra; have HXl := Lib.hid hXl; have HXb := Lib.hid hXb; have HCb := Lib.hid hCb
            replace hX1 : Row .u8 wr.drew _ X := hX1
            replace hC1 : Row .u8 wr.drew _ C := hC1
            have hr' : Row .u8 wr.drew (.slice (some ⟨bb, ob, none⟩) b.length cb) b := hr
            have Hls' : Hid (HoldsRws wr.drew w.heap.size (.slice ao no co) ls) := Lib.hid Hls.out
            have Hob' : Hid (wr.drew.ownsRow w.heap.size 5 1 (.slice (some ⟨bb, ob, none⟩) b.length cb) b.length (b.map (Value.int .u8))) := Lib.hid Hob.out
            have hbd := hbr.drew
            clear Hob
            clear hwh hra hXe hX hC hXl hXb hCb hX0 hC0 hr Hls hv1 hv2 hbr hcby hc hbb hLb
            generalize wr.drew = wv at *
            have eb1 : IntKind.i64.wrap ((n : Int) + 4) = (n : Int) + 4 := IntWalk.i64_in _ (by omega)
            have eb2 : IntKind.i64.wrap ((n : Int) + 4 + L) = (n : Int) + 4 + L := IntWalk.i64_in _ (by omega)
            have eb3 : IntKind.i64.wrap ((n : Int) + L) = (n : Int) + L := IntWalk.i64_in _ (by omega)
            have eb4 : IntKind.i64.wrap ((n : Int) + L + 20) = (n : Int) + L + 20 := IntWalk.i64_in _ (by omega)
            have g1 : ¬ cb = n + 4 := by omega
            have g2 : ¬ cb = n := by omega
            have g3 : (n : Int) + 4 + L ≤ (cb : Int) := by omega
            have g4 : (n : Int) + L + 20 ≤ (cb : Int) := by omega
            have g5 : (n : Int) + 4 ≤ (n : Int) + 4 + L := by omega
            have g6 : (n : Int) ≤ (n : Int) + L + 20 := by omega
            go_wp2_with (first
              | (at_builtin; go_loud (refine wpList_plain rfl fun Kx hKx => ?_; refine wp_append_bytes2 (.tmp 57) (.tmp 65) 22 rfl 5 j0 (.int .u8 0) Try.underlying22 gi gz0 gz1 gz2 rfl wv.heap.size (by simp) _ [] rfl (owns_empty wv wv.heap.size 5 (Nat.le_refl _)) _ X (hX1.alloc _) (by simp [Act.eval]; done) (by rw [HXl.out]; simp; omega) ?_; intro va wa oa ba za da; rw [List.nil_append] at oa; refine hKx _ _ ?_))
              | fail)
            have st1 : Stp wv wa := ((Below.refl wv.heap.size wv).alloc (Nat.le_refl _) (.cells #[] 5)).trans ba
            have hXa := owns_row oa HXb.out
            obtain ⟨ax, cx, rfl⟩ := hXa.shape X.length rfl
            have hCa := hC1.stp st1
            have Hba : Hid (wa.ownsRow w.heap.size 5 1 (.slice (some ⟨bb, ob, none⟩) b.length cb) b.length (b.map (Value.int .u8))) := Lib.hid (owns_below Hob'.out st1)
            have Hla : Hid (HoldsRws wa w.heap.size (.slice ao no co) ls) := Lib.hid (Hls'.out.below st1)
            have hba := hbd.trans (st1.mono hbd.size)
            have ox := owns_low oa hbd.size
            clear hX1 hC1 hr' Hls' hbd oa ba za da st1 Hob'
            have hXd : Row .u8 wa.drew (.slice ax X.length cx) X := hXa
            have hCd : Row .u8 wa.drew (.slice (some ⟨bb, ob + n, none⟩) (L + 20) (cb - n)) C := hCa
            have kc0 := hCd.convert
            have ej : ((n : Int) + L + 20).toNat - n = L + 20 := by omega
            by_cases hF : Wm.frame X = C
            · have hw := HWh.out.2 hF
              obtain ⟨e1, e2⟩ := HRa.out hw
              have E1 := Lib.hid e1; have E2 := Lib.hid e2
              clear e1 e2
              go_wp2_with fail
              go_region_with (go_at_call 21; refine (Rframe_any _ X _ (by exact hXd) (by rw [HXl.out]; omega)).mono ?_; rintro e wf ⟨vf, rfl, of, bf⟩; have kf := (owns_row of (Wm.frame_byte X HXb.out)).convert; rw [hF] at kf; have kc := (hCd.stp (by exact bf)).convert; obtain ⟨xf, nf, mf, rfl⟩ := owns_slice of)
              all_goals
                have stf : Stp wa.drew wf := bf
                have Hlf : Hid (HoldsRws wf w.heap.size (.slice ao no co) ls) := Lib.hid (HoldsRws.below (W := wa.drew) Hla.out bf)
                have Hbf : Hid (wf.ownsRow w.heap.size 5 1 (.slice (some ⟨bb, ob, none⟩) b.length cb) b.length (b.map (Value.int .u8))) := Lib.hid (owns_below (w := wa.drew) Hba.out bf)
                have oxf : wf.ownsRow w.heap.size 5 1 (.slice ax X.length cx) X.length (X.map (Value.int .u8)) := owns_below (w := wa.drew) ox bf
                have hbf : Below w.heap.size w wf := (hba.drew).trans (bf.mono hba.size)
                obtain ⟨vs', hw1, hw2⟩ := Hlf.out
                have hll : ls.length ≤ 80000 := by have := read_len b; rw [HE.out.1] at this; simp at this; omega
                clear hXa hCa Hla Hba hba ox hXd hCd kc0 kc kf of stf bf Hlf
                go_wp2_with (first
                  | (at_builtin; go_loud (refine wpList_append_own _ rfl (.tmp 79) (.tmp 81) 35 rfl w.heap.size 22 i0 (.slice none 0 0) 1 24 Try.underlying35 hi hz0 hz1 hz2 rfl (by decide) _ _ _ rfl (hw1.alloc _) ⟨wf.heap.size, 0, none⟩ 1 1 [.slice ax X.length cx] (by simp [Act.eval]; done) rfl (cell_one_new _ _ _) (by intro u hu; rw [List.mem_singleton.1 hu]; rfl) (by unfold maxLen; omega) (by omega) (by have := hbf.size; simp; omega) ?_; intro v' w1 hown' hgrow _))
                  | fail)
                have hsn := HoldsRws.snoc (l := X) (r := .slice ax X.length cx) (hw1.alloc (.cells #[.slice ax X.length cx] 22)) (fun i hi => (hw2 i hi).alloc _) (oxf.alloc _) hown' hgrow
                have hbk := (Hbf.out.alloc (.cells #[.slice ax X.length cx] 22)).kept hgrow (own_type_ne Hbf.out hw1 (by decide))
                have hb1 : Below w.heap.size w w1 := (bel_alloc hbf (.cells #[.slice ax X.length cx] 22)).grown hgrow (by have := hbf.size; simp; omega) (fun k e => own_above hw1 (by exact e))
                trace "R10"
                go_roundw
                case rel => exact ⟨n + L + 20, ls ++ [X], by go_num, by omega, Lib.hid ⟨E1.out, E2.out⟩, hsn, hbk, hb1⟩
                case measure => simp [intOf]; omega
            · have hw : ¬ Wm.whole c := fun h => hF (HWh.out.1 h)
              have hr20 := Lib.hid (HEnd.out hw)
              have hsn := str_eq (Wm.frame_byte X HXb.out) HCb.out
              rw [decide_eq_false hF] at hsn
              obtain ⟨sF, hsF⟩ : ∃ s, strOfNums (Wm.frame X) = s := ⟨_, rfl⟩
              obtain ⟨sC, hsC⟩ : ∃ s, strOfNums C = s := ⟨_, rfl⟩
              rw [hsF, hsC] at hsn
              rw [hsC] at kc0
              have HSF := Lib.hid hsF; have HSC := Lib.hid hsC
              clear hsF hsC
              go_wp2_with fail
              go_region_with (go_at_call 21; refine (Rframe_any _ X _ (by exact hXd) (by rw [HXl.out]; omega)).mono ?_; rintro e wf ⟨vf, rfl, of, bf⟩; have kf := (owns_row of (Wm.frame_byte X HXb.out)).convert; rw [HSF.out] at kf; have kc := (hCd.stp (by exact bf)).convert; rw [HSC.out] at kc; obtain ⟨xf, nf, mf, rfl⟩ := owns_slice of)
              all_goals
                have Hlf : Hid (HoldsRws wf w.heap.size (.slice ao no co) ls) := Lib.hid (HoldsRws.below (W := wa.drew) Hla.out bf)
                have hbf : Below w.heap.size w wf := (hba.drew).trans (bf.mono hba.size)
                go_wp2_with fail
                go_ret2
                exact ⟨.slice ao no co, (by rw [hr20.out.2]; rfl), (by rw [hr20.out.1]; exact HoldsRws.rws Hlf.out Hlsb.out), hbf⟩
    · have h20' : ¬ (20 : Int) ≤ (b.length : Int) - n := by omega
      have hr20 := Lib.hid <| HEnd.out (fun h => h20 h.1)
      go_wp2_with fail
      go_ret2
      exact ⟨.slice ao no co, (by rw [hr20.out.2]; rfl), (by rw [hr20.out.1]; exact HoldsRws.rws Hls.out Hlsb.out), hbr⟩
end Go.Proofs.Ytiijlakilogekaa
