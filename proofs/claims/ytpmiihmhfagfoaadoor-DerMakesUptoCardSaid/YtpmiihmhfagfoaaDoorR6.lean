/-
  Walks over the document's answer (greatsealref07): Int, Text, Oct, Bool.
-/
import Derived.Test.YtpmiihmhfagfoaaDoorR5
import Derived.Test.YtpmiihmhfagfoaaDoorEz
namespace Go.Proofs.YtpmiihmhfagfoaaDoor
open Go.RowKit

theorem headD_at (l : List Int) : l.headD 0 = l[0]?.getD 0 := by cases l <;> rfl

set_option maxRecDepth 100000 in
set_option maxHeartbeats 4000000 in
theorem rInt_mk (n : Int) (w : World) (h1 : -9223372036854775808 ≤ n) (h2 : n ≤ 9223372036854775807) :
    Calls Tryd.prog 35 #[.int .i64 n] w fun e w' => (∃ a c, e = .returned (.agg #[.int .i64 2, .slice a (intB n).length c, .slice none 0 0]) ∧
      ItP w' (.slice a (intB n).length c) (.slice none 0 0) (.mk 2 (intB n) [])) ∧ Below w.heap.size w w' := by
  obtain ⟨B, hB⟩ : ∃ B, w.heap.size = B := ⟨_, rfl⟩
  rw [hB]
  obtain ⟨W, hW⟩ : ∃ W, w.alloc (.cells #[.int .i64 0, .slice none 0 0, .slice none 0 0] 25) = W := ⟨_, rfl⟩
  have q0 := Trip.new w 25 (.int .i64 0) (.slice none 0 0) (.slice none 0 0)
  have hb0 := (Below.refl w.heap.size w).alloc (Nat.le_refl _) (.cells #[.int .i64 0, .slice none 0 0, .slice none 0 0] 25)
  have hs : W.heap.size = B + 1 := by rw [← hW, World.size_alloc, hB]
  rw [hW, hB] at q0
  rw [hW, hB] at hb0
  have own0 := World.ownsRow_lit (base := W.heap.size) (e := 5) (size := 1) W #[.int .u8 (n % 256)] 1 (Nat.le_refl _) (by unfold maxLen; omega) rfl
  rw [hs] at own0
  have hl1 : lowB n 1 = [n % 256] := by rw [lowB_succ n (by omega), restI_zero]; rfl
  have own1 : OwnB (W.alloc (.cells #[.int .u8 (n % 256)] 5)) (B + 1) (.slice (some ⟨B + 1, 0, none⟩) 1 1) (lowB n 1) := by rw [hl1]; exact own0
  have q1 := q0.alloc (.cells #[.int .u8 (n % 256)] 5)
  have hb1 := hb0.alloc (by omega) (.cells #[.int .u8 (n % 256)] 5)
  have HW := Lib.hid hW; have Q1 := Lib.hid q1; have HB1 := Lib.hid hb1; have O1 := Lib.hid own1; have HS := Lib.hid hs
  clear hW q0 hb0 hs own0 hl1 own1 q1 hb1
  go_enter Tryd.func35, Tryd.ntmps35
  go_wp2_with fail
  rw [HW.out]
  (try rw [hB])
  go_loopw [3, 4, 5] (fun bv rv _ wr => ∃ j : Nat, 1 ≤ j ∧ j ≤ 8 ∧ rv = .int .i64 (restI n j) ∧ OwnB wr (B + 1) bv (lowB n j) ∧ (j = 1 ∨ ¬ stopI n (j - 1)) ∧ Trip wr B 25 (.int .i64 0) (.slice none 0 0) (.slice none 0 0) ∧ Below B w wr) (fun bv _ _ _ => 10 - lenOf bv)
  case atStart => exact ⟨1, Nat.le_refl _, by omega, by rw [restI_succ, restI_zero], O1.out, .inl rfl, Q1.out, HB1.out⟩
  case round =>
    obtain ⟨j, hj1, hj8, rfl, own, hn, hd, hb⟩ := hrel
    have hr := Row.of_bytes own (lowB_byte n j)
    obtain ⟨a, c, rfl⟩ := hr.shape j (lowB_len n hj8)
    obtain ⟨b, off, rfl, hlb, cy⟩ := hr.cellAt 0 (by rw [lowB_len n hj8]; omega)
    have hst : stopI n j ↔ restI n j = if (lowB n j)[0]?.getD 0 < 128 then 0 else -1 := by unfold stopI; rw [headD_at]
    obtain ⟨y, hy⟩ : ∃ y, (lowB n j)[0]?.getD 0 = y := ⟨_, rfl⟩
    obtain ⟨q, hq⟩ : ∃ q, restI n j = q := ⟨_, rfl⟩
    rw [hy] at cy hst
    rw [hq] at hst ⊢
    obtain ⟨a, ha⟩ : ∃ a : Option Addr, a = some ⟨b, off, none⟩ := ⟨_, rfl⟩
    have HR := Lib.hid hr; have HD := Lib.hid hd; have HB := Lib.hid hb; have HST := Lib.hid hst; have HQ := Lib.hid hq; have HO := Lib.hid own
    rw [← ha] at HR HO
    have hjp : (0 : Int) < (j : Int) := by omega
    simp only [Nat.add_zero] at cy
    clear hr hd hb hst hq own hy hlb
    subst ha
    by_cases hq0 : q = 0
    · subst hq0
      by_cases hy1 : y < 128
      · have hy2 : ¬ 128 ≤ y := by omega
        have hI := intB_low n hj1 hj8 (HST.out.2 (by rw [if_pos hy1])) hn
        have hd2 := HD.out
        have f0 := hd2.free 0; have f1 := hd2.free 1; have f2 := hd2.free 2; have x0 := hd2.cell0; have x1 := hd2.cell1; have x2 := hd2.cell2; have xl := hd2.lt
        have HI := Lib.hid hI
        clear hd2 hI hn
        go_wp2_with fail
        refine bodyPost_ret (item_ret1 rfl rfl (trip3 HD.out _ _ _)) rfl ?_
        have hoff := HR.out.off_trip HD.out
        have hlen : (intB n).length = j := by rw [HI.out, lowB_len n hj8]
        refine ⟨⟨_, c, by rw [hlen], (show (Lit.int .i64 2).wf = true by decide), ?_, ItsV.nil _⟩, bel3' HB.out (Nat.le_refl _) _ _ _⟩
        show Row .u8 _ (.slice (some ⟨b, off, none⟩) (intB n).length c) (intB n)
        rw [hlen, HI.out]
        exact HR.out.aside3 hoff _ _ _
      · have hy2 : 128 ≤ y := by omega
        have hns : ¬ stopI n j := fun h => by have h9 := HST.out.1 h; rw [if_neg hy1] at h9; omega
        have hj9 : j < 8 := by
          by_cases h9 : j = 8
          · subst h9; exact absurd (stop_eight n h1 h2) hns
          · omega
        have hlow := lowB_succ n hj9
        have hrs := restI_succ n j
        rw [HQ.out] at hlow hrs
        have A1 := Lib.hid (AccR.one wr ((0 : Int) % 256))
        have HLow := Lib.hid hlow; have HRS := Lib.hid hrs; have HNS := Lib.hid hns
        clear hlow hrs hns hn
        go_wp2_with (first
          | (at_builtin; refine wpList_plain rfl fun Kx hKx => ?_; refine wp_app (.tmp 34) (.tmp 35) rfl wr.heap.size A1.out.bel.size _ _ rfl A1.out.own _ (lowB n j) (A1.out.row HR.out) rfl (by rw [lowB_len n hj8]; simp; omega) ?_; intro u4 w4 ap4
             have A2 := Lib.hid (A1.out.app ap4); refine hKx _ _ ?_; clear ap4)
          | fail)
        have hlt := HD.out.lt
        have hown : OwnB w4 (B + 1) u4 (lowB n (j + 1)) := by
          have h9 := owns_base A2.out.own (show B + 1 ≤ wr.heap.size by omega)
          rw [HLow.out]; exact h9
        have hdd := trip_stp HD.out A2.out.bel
        have hbb := HB.out.trans (A2.out.bel.mono (Nat.le_of_lt hlt))
        obtain ⟨a4, c4, rfl⟩ := (Row.of_bytes hown (lowB_byte n _)).shape (j + 1) (lowB_len n (by omega))
        go_roundw
        case rel => exact ⟨j + 1, by omega, by omega, by first | (rw [HRS.out]; done) | (rw [HRS.out]; rfl), hown, .inr HNS.out, hdd, hbb⟩
        case measure => simp [lenOf]; omega
    have hq0' : (q == 0) = false := beq_eq_false_iff_ne.2 hq0
    by_cases hq1 : q = -1
    · subst hq1
      by_cases hy1 : y < 128
      · have hy2 : ¬ 128 ≤ y := by omega
        have hns : ¬ stopI n j := fun h => by have h9 := HST.out.1 h; rw [if_pos hy1] at h9; omega
        have hj9 : j < 8 := by
          by_cases h9 : j = 8
          · subst h9; exact absurd (stop_eight n h1 h2) hns
          · omega
        have hlow := lowB_succ n hj9
        have hrs := restI_succ n j
        rw [HQ.out] at hlow hrs
        have A1 := Lib.hid (AccR.one wr ((-1 : Int) % 256))
        have HLow := Lib.hid hlow; have HRS := Lib.hid hrs; have HNS := Lib.hid hns
        clear hlow hrs hns hn
        go_wp2_with (first
          | (at_builtin; refine wpList_plain rfl fun Kx hKx => ?_; refine wp_app (.tmp 34) (.tmp 35) rfl wr.heap.size A1.out.bel.size _ _ rfl A1.out.own _ (lowB n j) (A1.out.row HR.out) rfl (by rw [lowB_len n hj8]; simp; omega) ?_; intro u4 w4 ap4
             have A2 := Lib.hid (A1.out.app ap4); refine hKx _ _ ?_; clear ap4)
          | fail)
        have hlt := HD.out.lt
        have hown : OwnB w4 (B + 1) u4 (lowB n (j + 1)) := by
          have h9 := owns_base A2.out.own (show B + 1 ≤ wr.heap.size by omega)
          rw [HLow.out]; exact h9
        have hdd := trip_stp HD.out A2.out.bel
        have hbb := HB.out.trans (A2.out.bel.mono (Nat.le_of_lt hlt))
        obtain ⟨a4, c4, rfl⟩ := (Row.of_bytes hown (lowB_byte n _)).shape (j + 1) (lowB_len n (by omega))
        go_roundw
        case rel => exact ⟨j + 1, by omega, by omega, by first | (rw [HRS.out]; done) | (rw [HRS.out]; rfl), hown, .inr HNS.out, hdd, hbb⟩
        case measure => simp [lenOf]; omega
      · have hy2 : 128 ≤ y := by omega
        have hI := intB_low n hj1 hj8 (HST.out.2 (by rw [if_neg hy1])) hn
        have hd2 := HD.out
        have f0 := hd2.free 0; have f1 := hd2.free 1; have f2 := hd2.free 2; have x0 := hd2.cell0; have x1 := hd2.cell1; have x2 := hd2.cell2; have xl := hd2.lt
        have HI := Lib.hid hI
        clear hd2 hI hn
        go_wp2_with fail
        refine bodyPost_ret (item_ret1 rfl rfl (trip3 HD.out _ _ _)) rfl ?_
        have hoff := HR.out.off_trip HD.out
        have hlen : (intB n).length = j := by rw [HI.out, lowB_len n hj8]
        refine ⟨⟨_, c, by rw [hlen], (show (Lit.int .i64 2).wf = true by decide), ?_, ItsV.nil _⟩, bel3' HB.out (Nat.le_refl _) _ _ _⟩
        show Row .u8 _ (.slice (some ⟨b, off, none⟩) (intB n).length c) (intB n)
        rw [hlen, HI.out]
        exact HR.out.aside3 hoff _ _ _
    have hq1' : (q == -1) = false := beq_eq_false_iff_ne.2 hq1
    have hns : ¬ stopI n j := fun h => by have h9 := HST.out.1 h; split at h9 <;> omega
    have hj9 : j < 8 := by
      by_cases h9 : j = 8
      · subst h9; exact absurd (stop_eight n h1 h2) hns
      · omega
    have hlow := lowB_succ n hj9
    have hrs := restI_succ n j
    rw [HQ.out] at hlow hrs
    have A1 := Lib.hid (AccR.one wr (q % 256))
    have HLow := Lib.hid hlow; have HRS := Lib.hid hrs; have HNS := Lib.hid hns
    clear hlow hrs hns hn
    go_wp2_with (first
      | (at_builtin; refine wpList_plain rfl fun Kx hKx => ?_; refine wp_app (.tmp 34) (.tmp 35) rfl wr.heap.size A1.out.bel.size _ _ rfl A1.out.own _ (lowB n j) (A1.out.row HR.out) rfl (by rw [lowB_len n hj8]; simp; omega) ?_; intro u4 w4 ap4
         have A2 := Lib.hid (A1.out.app ap4); refine hKx _ _ ?_; clear ap4)
      | fail)
    have hlt := HD.out.lt
    have hown : OwnB w4 (B + 1) u4 (lowB n (j + 1)) := by
      have h9 := owns_base A2.out.own (show B + 1 ≤ wr.heap.size by omega)
      rw [HLow.out]; exact h9
    have hdd := trip_stp HD.out A2.out.bel
    have hbb := HB.out.trans (A2.out.bel.mono (Nat.le_of_lt hlt))
    obtain ⟨a4, c4, rfl⟩ := (Row.of_bytes hown (lowB_byte n _)).shape (j + 1) (lowB_len n (by omega))
    go_roundw
    case rel => exact ⟨j + 1, by omega, by omega, by first | (rw [HRS.out]; done) | (rw [HRS.out]; rfl), hown, .inr HNS.out, hdd, hbb⟩
    case measure => simp [lenOf]; omega
set_option maxRecDepth 100000 in
theorem rText_mk (s : ByteArray) (w : World) (hs : s.size ≤ 1000000) :
    Calls Tryd.prog 37 #[.string s] w fun e w' => (∃ a c, e = .returned (.agg #[.int .i64 12, .slice a (strB s).length c, .slice none 0 0]) ∧
      ItP w' (.slice a (strB s).length c) (.slice none 0 0) (.mk 12 (strB s) [])) ∧ Below w.heap.size w w' := by
  have kW := run_bytes_of_string (P := Tryd.prog) (w.alloc (.cells #[.int .i64 0, .slice none 0 0, .slice none 0 0] 25)) 9 22 5 s Tryd.underlying9 Tryd.underlying22 Tryd.underlying5
  obtain ⟨C, hC⟩ : ∃ C, grownCap (w.alloc (.cells #[.int .i64 0, .slice none 0 0, .slice none 0 0] 25)) s.size 0 5 = C := ⟨_, rfl⟩
  have h1 : s.size ≤ C := by rw [← hC]; exact grownCap_ge _ s.size 0 _
  have h2 : C ≤ maxLen := by rw [← hC]; exact grownCap_le_maxLen _ s.size 0 _ (by unfold maxLen; omega)
  rw [hC] at kW
  have hrow := fun W => str_row W s C h1 h2 5 ((bytesRow s C).size, (bytesRow s C).size + 1)
  obtain ⟨O, hO⟩ : ∃ O, Obj.cells (bytesRow s C) 5 ((bytesRow s C).size, (bytesRow s C).size + 1) = O := ⟨_, rfl⟩
  rw [hO] at kW hrow
  have HR := Lib.hid hrow
  clear hrow h1 h2 hC hO
  go_enter Tryd.func37, Tryd.ntmps37
  go_wp2_with fail
  have hr := HR.out (w.alloc (.cells #[.int .i64 12, .slice (some ⟨w.heap.size + 1, 0, none⟩) s.size C, .slice none 0 0] 25))
  rw [World.size_alloc, strB_len] at hr
  have q : Trip (((w.alloc (.cells #[.int .i64 12, .slice (some ⟨w.heap.size + 1, 0, none⟩) s.size C, .slice none 0 0] 25)).alloc O).drew) w.heap.size 25 _ _ _ := Trip.alloc (Trip.new w _ _ _ _) O
  have hb : Below w.heap.size w (((w.alloc (.cells #[.int .i64 12, .slice (some ⟨w.heap.size + 1, 0, none⟩) s.size C, .slice none 0 0] 25)).alloc O).drew) := (((Below.refl _ w).alloc (Nat.le_refl _) _).alloc (by simp) O).drew
  refine bodyPost_ret (item_ret1 rfl rfl q) rfl ?_
  refine ⟨⟨_, _, by rw [strB_len], (show (Lit.int .i64 12).wf = true by decide), ?_, ItsV.nil _⟩, hb⟩
  show Row .u8 _ _ (strB s)
  rw [strB_len]; exact hr.drew

set_option maxRecDepth 100000 in
set_option maxHeartbeats 1000000 in
theorem rOct_mk (v : Value) (l : List Int) (w : World) (h : Row .u8 w v l) (hlen : l.length ≤ 1000000) :
    Calls Tryd.prog 39 #[v] w fun e w' => (∃ a c, e = .returned (.agg #[.int .i64 4, .slice a l.length c, .slice none 0 0]) ∧
      ItP w' (.slice a l.length c) (.slice none 0 0) (.mk 4 l [])) ∧ Below w.heap.size w w' := by
  obtain ⟨W, hW⟩ : ∃ W, w.alloc (.cells #[.int .i64 0, .slice none 0 0, .slice none 0 0] 25) = W := ⟨_, rfl⟩
  have q0 := Trip.new w 25 (.int .i64 0) (.slice none 0 0) (.slice none 0 0)
  have hb0 := (Below.refl w.heap.size w).alloc (Nat.le_refl _) (.cells #[.int .i64 0, .slice none 0 0, .slice none 0 0] 25)
  have hs : W.heap.size = w.heap.size + 1 := by rw [← hW, World.size_alloc]
  rw [hW] at q0 hb0
  have a0 : AccR W (W.alloc (.cells #[] 5)) (.slice (some ⟨w.heap.size + 1, 0, none⟩) 0 0) [] := by rw [← hs]; exact AccR.empty W
  have HW := Lib.hid hW; have Q0 := Lib.hid q0; have HB0 := Lib.hid hb0; have HR := Lib.hid h; have HS := Lib.hid hs; have A0 := Lib.hid a0
  clear hW q0 hb0 h hs a0
  go_enter Tryd.func39, Tryd.ntmps39
  go_wp2_with (first
    | (at_builtin; rw [HW.out]; refine wpList_plain rfl fun Kx hKx => ?_; refine wp_app (.tmp 3) (.tmp 4) rfl W.heap.size A0.out.bel.size _ [] rfl A0.out.own _ l (A0.out.row (HR.out.below HB0.out)) rfl (by simp; omega) ?_; intro u4 w4 ap4
       have A1 := Lib.hid (A0.out.app ap4)
       have rr := Row.of_bytes A1.out.own (by rw [List.nil_append]; exact HR.out.all_byte)
       rw [List.nil_append] at rr
       obtain ⟨a4, c4, rfl⟩ := rr.shape _ rfl
       have q4 := trip_stp Q0.out A1.out.bel
       have RR := Lib.hid rr; have Q4 := Lib.hid q4; refine hKx _ _ ?_; clear ap4 rr
       have f0 := q4.free 0; have f1 := q4.free 1; have f2 := q4.free 2; have x0 := q4.cell0; have x1 := q4.cell1; have x2 := q4.cell2; have xl := q4.lt
       clear q4)
    | fail)
  refine bodyPost_ret (item_ret1 rfl rfl (trip3 Q4.out _ _ _)) rfl ?_
  have hoff := RR.out.off_trip Q4.out
  refine ⟨⟨a4, c4, rfl, (show (Lit.int .i64 4).wf = true by decide), RR.out.aside3 hoff _ _ _, ItsV.nil _⟩, bel3' (HB0.out.trans (A1.out.bel.mono HB0.out.size)) (Nat.le_refl _) _ _ _⟩

set_option maxRecDepth 100000 in
theorem rBool_mk (v : Bool) (w : World)  :
    Calls Tryd.prog 41 #[.bool v] w fun e w' => (∃ a c, e = .returned (.agg #[.int .i64 1, .slice a 1 c, .slice none 0 0]) ∧
      Own w.heap.size none w' (.slice a 1 c) (.slice none 0 0) (.mk 1 [if v then 255 else 0] [])) ∧ Below w.heap.size w w' := by
  have key : ∀ x : Int, byte x → Trip ((w.alloc (.cells #[.int .i64 1, .slice (some ⟨w.heap.size + 1, 0, none⟩) 1 1, .slice none 0 0] 25)).alloc (.cells #[.int .u8 x] 5)) w.heap.size 25 (.int .i64 1) (.slice (some ⟨w.heap.size + 1, 0, none⟩) 1 1) (.slice none 0 0) ∧
      Own w.heap.size none ((w.alloc (.cells #[.int .i64 1, .slice (some ⟨w.heap.size + 1, 0, none⟩) 1 1, .slice none 0 0] 25)).alloc (.cells #[.int .u8 x] 5)) (.slice (some ⟨w.heap.size + 1, 0, none⟩) 1 1) (.slice none 0 0) (.mk 1 [x] []) ∧
      Below w.heap.size w ((w.alloc (.cells #[.int .i64 1, .slice (some ⟨w.heap.size + 1, 0, none⟩) 1 1, .slice none 0 0] 25)).alloc (.cells #[.int .u8 x] 5)) := by
    intro x hx
    refine ⟨(Trip.new w _ _ _ _).alloc _, Own.bytes (by decide) ?_ ?_, ((Below.refl _ w).alloc (Nat.le_refl _) _).alloc (by simp) _⟩
    · have := Row.lit8 (w.alloc (.cells #[.int .i64 1, .slice (some ⟨w.heap.size + 1, 0, none⟩) 1 1, .slice none 0 0] 25)) [x] (by simp) (by simpa using hx) 1 rfl
      rw [World.size_alloc] at this
      exact this
    · rintro bb oo nn cc e0 h0
      cases e0; omega
  have HK := Lib.hid key
  clear key
  cases v
  · go_enter Tryd.func41, Tryd.ntmps41
    go_wp2_with fail
    obtain ⟨k1, k2, k3⟩ := HK.out 0 ⟨by decide, by decide⟩
    exact bodyPost_ret (item_ret1 rfl rfl k1) rfl ⟨⟨_, _, rfl, k2⟩, k3⟩
  · go_enter Tryd.func41, Tryd.ntmps41
    go_wp2_with fail
    obtain ⟨k1, k2, k3⟩ := HK.out 255 ⟨by decide, by decide⟩
    exact bodyPost_ret (item_ret1 rfl rfl k1) rfl ⟨⟨_, _, rfl, k2⟩, k3⟩
end Go.Proofs.YtpmiihmhfagfoaaDoor
