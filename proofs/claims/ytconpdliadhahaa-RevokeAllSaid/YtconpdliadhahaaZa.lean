/-
  The texts Ve Vf Ce Cf Cg Ch Cj Ci Vw Vg Vh Vi Vj Vk Rg in one. (Merged by wip/merge.py.)
-/
import Derived.Test.YtconpdliadhahaaVd
import Derived.Laws.ResultCell
import Derived.Test.YtconpdliadhahaaCd
import Derived.Stop.RegionWithIn
import Derived.WalkMore
import Derived.Sort.QuietTacIn
import Derived.Sort.BigQuietIn
import Derived.Deep.RegionHeld3
import Derived.Sort.CutIn
import Derived.Laws.Rows
import Derived.OwnWalkIn
import Derived.Deep.CutBlock
import Derived.Test.YtconpdliadhahaaSx
import Derived.Test.YtconpdliadhahaaSs
import Derived.Test.YtconpdliadhahaaCc
import Derived.Test.YtconpdliadhahaaRw
import Derived.Test.YtconpdliadhahaaCo
import Derived.Lib.SmallJoins

section
namespace Go.Proofs.Ytconpdliadhahaa
open Go.RowKit

/-- What Add and Revoke hand back: lists and a code. -/
def RevsOut (w w' : World) (e : Ending) (L : List Int × List Int) (E : Int) : Prop :=
  (∃ a1 c1 a2 c2, e = .returned (.tuple #[.agg #[.slice a1 L.1.length c1, .slice a2 L.2.length c2], .int .i64 E]) ∧ Row .i64 w' (.slice a1 L.1.length c1) L.1 ∧ Row .i64 w' (.slice a2 L.2.length c2) L.2) ∧ Below w.heap.size w w'
theorem RevsOut.nil {w w' : World} {E : Int} (h : Below w.heap.size w w') : RevsOut w w' (.returned (.tuple #[.agg #[.slice none 0 0, .slice none 0 0], .int .i64 E])) ([], []) E := ⟨⟨none, 0, none, 0, rfl, Row.nil _ _, Row.nil _ _⟩, h⟩
theorem revs_ret {tmps : Array Value} {W : World} {g : Nat} {fn : Func} {p q : Tmp} (hr : fn.results = #[.cell p 24, .tmp q]) (hp : tmps.getD p undef = .pointer (some ⟨g, 0, none⟩)) {x y : Value} (hd : Duo W g 24 x y) :
    (results fn tmps).run Try.prog W = .ok (.tuple #[.agg #[x, y], tmps.getD q undef]) W :=
  results_cell_tmp hr _ _ g _ _ _ _ hp hd Try.underlying24 rfl (by kernel_rfl)

set_option maxRecDepth 100000 in
set_option maxHeartbeats 4000000 in
theorem Add_rv (vl vg : Value) (live gone : List Int) (n : Int) (w : World) (h : Row .i64 w vl live) (hg : Row .i64 w vg gone) (hl : live.length ≤ 1000000) (hgl : gone.length ≤ 1000000) (hn : (Lit.int .i64 n).wf = true) :
    Calls Try.prog 11 #[.agg #[vl, vg], .int .i64 n] w fun e w' => RevsOut w w' e (Rv.addR live gone n) (Rv.addE live gone n) := by
  obtain ⟨al, cl, rfl⟩ := h.shape live.length rfl
  obtain ⟨ag, cg, rfl⟩ := hg.shape gone.length rfl
  obtain ⟨B, hB⟩ : ∃ B, w.heap.size = B := ⟨_, rfl⟩
  have ol := h.off (g := B) (by omega)
  have og := hg.off (g := B) (by omega)
  have ol2 := h.off (g := B + 1) (by omega)
  have og2 := hg.off (g := B + 1) (by omega)
  have q0 := Duo.new w 24 (.slice al live.length cl) (.slice ag gone.length cg)
  rw [hB] at q0
  have z0 := Duo.new' (w.alloc (.cells #[.slice al live.length cl, .slice ag gone.length cg] 24)) 24 (.slice none 0 0) (.slice none 0 0) (B + 1) (by simp [hB])
  replace q0 := q0.alloc (.cells #[.slice none 0 0, .slice none 0 0] 24)
  have hb0 := ((Below.refl w.heap.size w).alloc (Nat.le_refl _) (.cells #[.slice al live.length cl, .slice ag gone.length cg] 24)).alloc (by simp) (.cells #[.slice none 0 0, .slice none 0 0] 24)
  have r0 := (h.alloc (.cells #[.slice al live.length cl, .slice ag gone.length cg] 24)).alloc (.cells #[.slice none 0 0, .slice none 0 0] 24)
  have s0 := (hg.alloc (.cells #[.slice al live.length cl, .slice ag gone.length cg] 24)).alloc (.cells #[.slice none 0 0, .slice none 0 0] 24)
  have HB := Lib.hid hB
  have R0 := Lib.hid r0; have S0 := Lib.hid s0
  have OL := Lib.hid ol; have OG := Lib.hid og; have OL2 := Lib.hid ol2; have OG2 := Lib.hid og2
  clear h hg r0 s0 hB ol og ol2 og2
  have c0 := q0.cell0; have c1 := q0.cell1
  by_cases hO : Rv.okay live gone
  · have HO := Lib.hid hO; have hck := Rv.chk_okay hO; have HC := Lib.hid hck; clear hck
    by_cases hr : Sm.right n
    · have HR := Lib.hid hr
      by_cases hm : n ∈ live
      · have HM := Lib.hid hm
        have hF1 : Rv.addE live gone n = 221 := by unfold Rv.addE; rw [if_pos hO, if_pos hr, if_pos hm]
        have hF2 : Rv.addR live gone n = ([], []) := by unfold Rv.addR; rw [hF1, if_neg (by decide)]
        have HF1 := Lib.hid hF1; have HF2 := Lib.hid hF2
        clear hF1 hF2
        clear hO hr hm
        go_enter Try.func11, Try.ntmps11
        go_wp2_with fail
        (try rw [HB.out])
        go_wp2_with fail
        refine (RCheck_any _ _ live gone _ R0.out S0.out hl hgl).mono ?_; rintro e w1 ⟨rfl, hb1⟩
        rw [HC.out]
        have hB1 := hb0.trans (hb1.mono hb0.size)
        have q1 := q0.stp hb1
        have z1 := z0.stp hb1
        have R1 := Lib.hid (R0.out.below hb1); have S1 := Lib.hid (S0.out.below hb1)
        clear hb1 c0 c1
        have c0 := q1.cell0; have c1 := q1.cell1; have ltB := q1.lt; have ltZ := z1.lt
        go_wp2_with fail
        refine (serial_any n _).mono ?_; rintro e w' ⟨rfl, rfl⟩
        rw [decide_eq_true HR.out]
        go_wp2_with fail
        refine (in_any al live.length cl w1).mono ?_; rintro e w2 ⟨rfl, hw⟩
        obtain ⟨D, hD⟩ : ∃ D, w1.heap.size = D := ⟨_, rfl⟩
        have b3 := Boxed.new w1 22 (.slice al live.length cl)
        rw [hw, hD] at b3
        rw [hD]
        have hb : Below w1.heap.size w1 w2 := by rw [← hw]; exact (Below.refl _ _).alloc (Nat.le_refl _) _
        have hB2 := hB1.trans (hb.mono hB1.size)
        have q2 := q1.stp hb; have z2 := z1.stp hb
        have R2 := Lib.hid (R1.out.below hb); have S2 := Lib.hid (S1.out.below hb)
        clear hb c0 c1 ltB ltZ
        have c0 := q2.cell0; have c1 := q2.cell1; have ltB := q2.lt; have ltZ := z2.lt
        clear hw hD
        have hI := in1_any n _ live D w2 b3 R2.out hl HO.out.1.1.2
        rw [decide_eq_true HM.out] at hI
        go_wp2_with fail
        refine hI.mono ?_; rintro e w3 ⟨rfl, hb⟩
        clear hI b3
        have hB3 := hB2.trans (hb.mono hB2.size)
        have q3 := q2.stp hb; have z3 := z2.stp hb
        have R3 := Lib.hid (R2.out.below hb); have S3 := Lib.hid (S2.out.below hb)
        clear hb c0 c1 ltB ltZ
        have c0 := q3.cell0; have c1 := q3.cell1; have ltB := q3.lt; have ltZ := z3.lt
        have f0 := z3.free 0; have f1 := z3.free 1; have d0 := z3.cell0; have d1 := z3.cell1
        go_wp2_with fail
        have hzz := (z3.set0 (.slice none 0 0)).set1 (.slice none 0 0)
        refine bodyPost_ret (revs_ret rfl rfl hzz) rfl ?_
        rw [HF1.out, HF2.out]
        exact RevsOut.nil ((hB3.setCell (by rw [HB.out]; simp) _).setCell (by rw [HB.out]; simp) _)
      · have HM := Lib.hid hm
        by_cases h256 : live.length = 256
        · have h256' : (live.length : Int) = 256 := by omega
          have hF1 : Rv.addE live gone n = 2 := by unfold Rv.addE; rw [if_pos hO, if_pos hr, if_neg hm, if_pos h256]
          have hF2 : Rv.addR live gone n = ([], []) := by unfold Rv.addR; rw [hF1, if_neg (by decide)]
          have HF1 := Lib.hid hF1; have HF2 := Lib.hid hF2
          clear hF1 hF2
          clear hO hr hm h256
          go_enter Try.func11, Try.ntmps11
          go_wp2_with fail
          (try rw [HB.out])
          go_wp2_with fail
          refine (RCheck_any _ _ live gone _ R0.out S0.out hl hgl).mono ?_; rintro e w1 ⟨rfl, hb1⟩
          rw [HC.out]
          have hB1 := hb0.trans (hb1.mono hb0.size)
          have q1 := q0.stp hb1
          have z1 := z0.stp hb1
          have R1 := Lib.hid (R0.out.below hb1); have S1 := Lib.hid (S0.out.below hb1)
          clear hb1 c0 c1
          have c0 := q1.cell0; have c1 := q1.cell1; have ltB := q1.lt; have ltZ := z1.lt
          go_wp2_with fail
          refine (serial_any n _).mono ?_; rintro e w' ⟨rfl, rfl⟩
          rw [decide_eq_true HR.out]
          go_wp2_with fail
          refine (in_any al live.length cl w1).mono ?_; rintro e w2 ⟨rfl, hw⟩
          obtain ⟨D, hD⟩ : ∃ D, w1.heap.size = D := ⟨_, rfl⟩
          have b3 := Boxed.new w1 22 (.slice al live.length cl)
          rw [hw, hD] at b3
          rw [hD]
          have hb : Below w1.heap.size w1 w2 := by rw [← hw]; exact (Below.refl _ _).alloc (Nat.le_refl _) _
          have hB2 := hB1.trans (hb.mono hB1.size)
          have q2 := q1.stp hb; have z2 := z1.stp hb
          have R2 := Lib.hid (R1.out.below hb); have S2 := Lib.hid (S1.out.below hb)
          clear hb c0 c1 ltB ltZ
          have c0 := q2.cell0; have c1 := q2.cell1; have ltB := q2.lt; have ltZ := z2.lt
          clear hw hD
          have hI := in1_any n _ live D w2 b3 R2.out hl HO.out.1.1.2
          rw [decide_eq_false HM.out] at hI
          go_wp2_with fail
          refine hI.mono ?_; rintro e w3 ⟨rfl, hb⟩
          clear hI b3
          have hB3 := hB2.trans (hb.mono hB2.size)
          have q3 := q2.stp hb; have z3 := z2.stp hb
          have R3 := Lib.hid (R2.out.below hb); have S3 := Lib.hid (S2.out.below hb)
          clear hb c0 c1 ltB ltZ
          have c0 := q3.cell0; have c1 := q3.cell1; have ltB := q3.lt; have ltZ := z3.lt
          have f0 := z3.free 0; have f1 := z3.free 1; have d0 := z3.cell0; have d1 := z3.cell1
          go_wp2_with fail
          have hzz := (z3.set0 (.slice none 0 0)).set1 (.slice none 0 0)
          refine bodyPost_ret (revs_ret rfl rfl hzz) rfl ?_
          rw [HF1.out, HF2.out]
          exact RevsOut.nil ((hB3.setCell (by rw [HB.out]; simp) _).setCell (by rw [HB.out]; simp) _)
        · have h256' : ¬ (live.length : Int) = 256 := by omega
          have hF1 : Rv.addE live gone n = 0 := (Rv.addE_zero _ _ _).2 ⟨hO, hr, hm, h256⟩
          have hF2 : Rv.addR live gone n = (Rv.ins live n, gone) := by unfold Rv.addR; rw [if_pos hF1]
          have HF1 := Lib.hid hF1; have HF2 := Lib.hid hF2
          have hle := hO.2
          clear hF1 hF2 hO hr hm h256
          go_enter Try.func11, Try.ntmps11
          go_wp2_with fail
          (try rw [HB.out])
          go_wp2_with fail
          refine (RCheck_any _ _ live gone _ R0.out S0.out hl hgl).mono ?_; rintro e w1 ⟨rfl, hb1⟩
          rw [HC.out]
          have hB1 := hb0.trans (hb1.mono hb0.size)
          have q1 := q0.stp hb1
          have z1 := z0.stp hb1
          have R1 := Lib.hid (R0.out.below hb1); have S1 := Lib.hid (S0.out.below hb1)
          clear hb1 c0 c1
          have c0 := q1.cell0; have c1 := q1.cell1; have ltB := q1.lt; have ltZ := z1.lt
          go_wp2_with fail
          refine (serial_any n _).mono ?_; rintro e w' ⟨rfl, rfl⟩
          rw [decide_eq_true HR.out]
          go_wp2_with fail
          refine (in_any al live.length cl w1).mono ?_; rintro e w2 ⟨rfl, hw⟩
          obtain ⟨D, hD⟩ : ∃ D, w1.heap.size = D := ⟨_, rfl⟩
          have b3 := Boxed.new w1 22 (.slice al live.length cl)
          rw [hw, hD] at b3
          rw [hD]
          have hb : Below w1.heap.size w1 w2 := by rw [← hw]; exact (Below.refl _ _).alloc (Nat.le_refl _) _
          have hB2 := hB1.trans (hb.mono hB1.size)
          have q2 := q1.stp hb; have z2 := z1.stp hb
          have R2 := Lib.hid (R1.out.below hb); have S2 := Lib.hid (S1.out.below hb)
          clear hb c0 c1 ltB ltZ
          have c0 := q2.cell0; have c1 := q2.cell1; have ltB := q2.lt; have ltZ := z2.lt
          clear hw hD
          have hI := in1_any n _ live D w2 b3 R2.out hl HO.out.1.1.2
          rw [decide_eq_false HM.out] at hI
          go_wp2_with fail
          refine hI.mono ?_; rintro e w3 ⟨rfl, hb⟩
          clear hI b3
          have hB3 := hB2.trans (hb.mono hB2.size)
          have q3 := q2.stp hb; have z3 := z2.stp hb
          have R3 := Lib.hid (R2.out.below hb); have S3 := Lib.hid (S2.out.below hb)
          clear hb c0 c1 ltB ltZ
          have c0 := q3.cell0; have c1 := q3.cell1; have ltB := q3.lt; have ltZ := z3.lt
          go_wp2_with fail
          have hW := with_any _ live n _ R3.out (by omega) HO.out.1.1.2 hn
          obtain ⟨L, hL⟩ : ∃ L, Rv.ins live n = L := ⟨_, rfl⟩
          rw [hL] at hW
          have HL := Lib.hid hL; clear hL
          refine hW.mono ?_; rintro e w4 ⟨a3, c3, rfl, r3, p3, hb⟩
          have o3 : Off B (.slice a3 L.length c3) := Past.off p3 ltB
          have o4 : Off (B + 1) (.slice a3 L.length c3) := Past.off p3 ltZ
          clear hW
          clear p3
          have hB4 := hB3.trans (hb.mono hB3.size)
          have q4 := q3.stp hb; have z4 := z3.stp hb
          have x2 := S3.out.below hb
          clear hb c0 c1 ltB ltZ
          have c0 := q4.cell0; have c1 := q4.cell1; have f0 := q4.free 0; have f1 := q4.free 1
          have ne : B + 1 ≠ B := by omega
          have zB := z4.other (p := ⟨B, 0, none⟩) (fun e => ne e.symm) (.slice a3 L.length c3)
          have qB := q4.set0 (.slice a3 L.length c3)
          have d0 := qB.cell0; have d1 := qB.cell1; have g0 := z4.free 0; have g1 := z4.free 1; have e0 := zB.cell0; have e1 := zB.cell1; have y0 := z4.cell0; have y1 := z4.cell1
          go_wp2_with fail
          have hzz := (zB.set0 (.slice a3 L.length c3)).set1 (.slice ag gone.length cg)
          refine bodyPost_ret (revs_ret rfl rfl hzz) rfl ?_
          rw [HF1.out, HF2.out, HL.out]
          refine ⟨⟨_, _, _, _, rfl, ?_, ?_⟩, ((hB4.setCell (by rw [HB.out]; simp) _).setCell (by rw [HB.out]; simp) _).setCell (by rw [HB.out]; simp) _⟩
          · exact ((r3.aside (p := ⟨B, 0, none⟩) o3 _).aside (p := ⟨B + 1, 0, none⟩) o4 _).aside (p := ⟨B + 1, 1, none⟩) o4 _
          · exact ((x2.aside (p := ⟨B, 0, none⟩) OG.out _).aside (p := ⟨B + 1, 0, none⟩) OG2.out _).aside (p := ⟨B + 1, 1, none⟩) OG2.out _
    · have HR := Lib.hid hr
      have hF1 : Rv.addE live gone n = 1 := by unfold Rv.addE; rw [if_pos hO, if_neg hr]
      have hF2 : Rv.addR live gone n = ([], []) := by unfold Rv.addR; rw [hF1, if_neg (by decide)]
      have HF1 := Lib.hid hF1; have HF2 := Lib.hid hF2
      clear hF1 hF2
      clear hO hr
      go_enter Try.func11, Try.ntmps11
      go_wp2_with fail
      (try rw [HB.out])
      go_wp2_with fail
      refine (RCheck_any _ _ live gone _ R0.out S0.out hl hgl).mono ?_; rintro e w1 ⟨rfl, hb1⟩
      rw [HC.out]
      have hB1 := hb0.trans (hb1.mono hb0.size)
      have q1 := q0.stp hb1
      have z1 := z0.stp hb1
      have R1 := Lib.hid (R0.out.below hb1); have S1 := Lib.hid (S0.out.below hb1)
      clear hb1 c0 c1
      have c0 := q1.cell0; have c1 := q1.cell1; have ltB := q1.lt; have ltZ := z1.lt
      go_wp2_with fail
      refine (serial_any n _).mono ?_; rintro e w' ⟨rfl, rfl⟩
      rw [decide_eq_false HR.out]
      have f0 := z1.free 0; have f1 := z1.free 1; have d0 := z1.cell0; have d1 := z1.cell1
      go_wp2_with fail
      have hzz := (z1.set0 (.slice none 0 0)).set1 (.slice none 0 0)
      refine bodyPost_ret (revs_ret rfl rfl hzz) rfl ?_
      rw [HF1.out, HF2.out]
      exact RevsOut.nil ((hB1.setCell (by rw [HB.out]; simp) _).setCell (by rw [HB.out]; simp) _)
  · have hck := Rv.chk_not hO
    have hF1 : Rv.addE live gone n = Rv.chk live gone := by unfold Rv.addE; rw [if_neg hO]
    have hF2 : Rv.addR live gone n = ([], []) := by unfold Rv.addR; rw [hF1, if_neg hck]
    obtain ⟨cc, hcc⟩ : ∃ cc, Rv.chk live gone = cc := ⟨_, rfl⟩
    rw [hcc] at hck hF1
    have HF1 := Lib.hid hF1; have HF2 := Lib.hid hF2; have HC := Lib.hid hcc
    clear hO hF1 hF2 hcc
    go_enter Try.func11, Try.ntmps11
    go_wp2_with fail
    (try rw [HB.out])
    go_wp2_with fail
    refine (RCheck_any _ _ live gone _ R0.out S0.out hl hgl).mono ?_; rintro e w1 ⟨rfl, hb1⟩
    rw [HC.out]
    have hB1 := hb0.trans (hb1.mono hb0.size)
    have q1 := q0.stp hb1
    have z1 := z0.stp hb1
    have R1 := Lib.hid (R0.out.below hb1); have S1 := Lib.hid (S0.out.below hb1)
    clear hb1 c0 c1
    have c0 := q1.cell0; have c1 := q1.cell1; have ltB := q1.lt; have ltZ := z1.lt
    have f0 := z1.free 0; have f1 := z1.free 1; have d0 := z1.cell0; have d1 := z1.cell1
    go_wp2_with fail
    have hzz := (z1.set0 (.slice none 0 0)).set1 (.slice none 0 0)
    refine bodyPost_ret (revs_ret rfl rfl hzz) rfl ?_
    rw [HF1.out, HF2.out]
    exact RevsOut.nil ((hB1.setCell (by rw [HB.out]; simp) _).setCell (by rw [HB.out]; simp) _)

end Go.Proofs.Ytconpdliadhahaa
end

section
namespace Go.Proofs.Ytconpdliadhahaa
open Go.RowKit

set_option maxRecDepth 100000 in
set_option maxHeartbeats 4000000 in
theorem Revoke_rv (vl vg : Value) (live gone : List Int) (n : Int) (w : World) (h : Row .i64 w vl live) (hg : Row .i64 w vg gone) (hl : live.length ≤ 1000000) (hgl : gone.length ≤ 1000000) (hn : (Lit.int .i64 n).wf = true) :
    Calls Try.prog 13 #[.agg #[vl, vg], .int .i64 n] w fun e w' => RevsOut w w' e (Rv.revR live gone n) (Rv.revE live gone n) := by
  obtain ⟨al, cl, rfl⟩ := h.shape live.length rfl
  obtain ⟨ag, cg, rfl⟩ := hg.shape gone.length rfl
  obtain ⟨B, hB⟩ : ∃ B, w.heap.size = B := ⟨_, rfl⟩
  have ol := h.off (g := B) (by omega)
  have og := hg.off (g := B) (by omega)
  have ol2 := h.off (g := B + 1) (by omega)
  have og2 := hg.off (g := B + 1) (by omega)
  have q0 := Duo.new w 24 (.slice al live.length cl) (.slice ag gone.length cg)
  rw [hB] at q0
  have z0 := Duo.new' (w.alloc (.cells #[.slice al live.length cl, .slice ag gone.length cg] 24)) 24 (.slice none 0 0) (.slice none 0 0) (B + 1) (by simp [hB])
  replace q0 := q0.alloc (.cells #[.slice none 0 0, .slice none 0 0] 24)
  have hb0 := ((Below.refl w.heap.size w).alloc (Nat.le_refl _) (.cells #[.slice al live.length cl, .slice ag gone.length cg] 24)).alloc (by simp) (.cells #[.slice none 0 0, .slice none 0 0] 24)
  have r0 := (h.alloc (.cells #[.slice al live.length cl, .slice ag gone.length cg] 24)).alloc (.cells #[.slice none 0 0, .slice none 0 0] 24)
  have s0 := (hg.alloc (.cells #[.slice al live.length cl, .slice ag gone.length cg] 24)).alloc (.cells #[.slice none 0 0, .slice none 0 0] 24)
  have HB := Lib.hid hB
  have R0 := Lib.hid r0; have S0 := Lib.hid s0
  have OL := Lib.hid ol; have OG := Lib.hid og; have OL2 := Lib.hid ol2; have OG2 := Lib.hid og2
  clear h hg r0 s0 hB ol og ol2 og2
  have c0 := q0.cell0; have c1 := q0.cell1
  by_cases hO : Rv.okay live gone
  · have HO := Lib.hid hO; have hck := Rv.chk_okay hO; have HC := Lib.hid hck; clear hck
    by_cases hm : n ∈ live
    · have HM := Lib.hid hm
      by_cases hk : n ∈ gone
      · have HK := Lib.hid hk
        have hF1 : Rv.revE live gone n = 270 := by unfold Rv.revE; rw [if_pos hO, if_pos hm, if_pos hk]
        have hF2 : Rv.revR live gone n = ([], []) := by unfold Rv.revR; rw [hF1, if_neg (by decide)]
        have HF1 := Lib.hid hF1; have HF2 := Lib.hid hF2
        clear hF1 hF2
        clear hO hm hk
        go_enter Try.func13, Try.ntmps13
        go_wp2_with fail
        (try rw [HB.out])
        go_wp2_with fail
        refine (RCheck_any _ _ live gone _ R0.out S0.out hl hgl).mono ?_; rintro e w1 ⟨rfl, hb1⟩
        rw [HC.out]
        have hB1 := hb0.trans (hb1.mono hb0.size)
        have q1 := q0.stp hb1
        have z1 := z0.stp hb1
        have R1 := Lib.hid (R0.out.below hb1); have S1 := Lib.hid (S0.out.below hb1)
        clear hb1 c0 c1
        have c0 := q1.cell0; have c1 := q1.cell1; have ltB := q1.lt; have ltZ := z1.lt
        go_wp2_with fail
        refine (in_any al live.length cl w1).mono ?_; rintro e w2 ⟨rfl, hw⟩
        obtain ⟨D, hD⟩ : ∃ D, w1.heap.size = D := ⟨_, rfl⟩
        have b3 := Boxed.new w1 22 (.slice al live.length cl)
        rw [hw, hD] at b3
        rw [hD]
        have hb : Below w1.heap.size w1 w2 := by rw [← hw]; exact (Below.refl _ _).alloc (Nat.le_refl _) _
        have hB2 := hB1.trans (hb.mono hB1.size)
        have q2 := q1.stp hb; have z2 := z1.stp hb
        have R2 := Lib.hid (R1.out.below hb); have S2 := Lib.hid (S1.out.below hb)
        clear hb c0 c1 ltB ltZ
        have c0 := q2.cell0; have c1 := q2.cell1; have ltB := q2.lt; have ltZ := z2.lt
        clear hw hD
        have hI := in1_any n _ live D w2 b3 R2.out hl HO.out.1.1.2
        rw [decide_eq_true HM.out] at hI
        go_wp2_with fail
        refine hI.mono ?_; rintro e w3 ⟨rfl, hb⟩
        clear hI b3
        have hB3 := hB2.trans (hb.mono hB2.size)
        have q3 := q2.stp hb; have z3 := z2.stp hb
        have R3 := Lib.hid (R2.out.below hb); have S3 := Lib.hid (S2.out.below hb)
        clear hb c0 c1 ltB ltZ
        have c0 := q3.cell0; have c1 := q3.cell1; have ltB := q3.lt; have ltZ := z3.lt
        go_wp2_with fail
        refine (in_any ag gone.length cg w3).mono ?_; rintro e w4 ⟨rfl, hw⟩
        obtain ⟨D, hD⟩ : ∃ D, w3.heap.size = D := ⟨_, rfl⟩
        have b3 := Boxed.new w3 22 (.slice ag gone.length cg)
        rw [hw, hD] at b3
        rw [hD]
        have hb : Below w3.heap.size w3 w4 := by rw [← hw]; exact (Below.refl _ _).alloc (Nat.le_refl _) _
        have hB4 := hB3.trans (hb.mono hB3.size)
        have q4 := q3.stp hb; have z4 := z3.stp hb
        have R4 := Lib.hid (R3.out.below hb); have S4 := Lib.hid (S3.out.below hb)
        clear hb c0 c1 ltB ltZ
        have c0 := q4.cell0; have c1 := q4.cell1; have ltB := q4.lt; have ltZ := z4.lt
        clear hw hD
        have hI := in1_any n _ gone D w4 b3 S4.out hgl HO.out.1.2.1.2
        rw [decide_eq_true HK.out] at hI
        go_wp2_with fail
        refine hI.mono ?_; rintro e w5 ⟨rfl, hb⟩
        clear hI b3
        have hB5 := hB4.trans (hb.mono hB4.size)
        have q5 := q4.stp hb; have z5 := z4.stp hb
        have R5 := Lib.hid (R4.out.below hb); have S5 := Lib.hid (S4.out.below hb)
        clear hb c0 c1 ltB ltZ
        have c0 := q5.cell0; have c1 := q5.cell1; have ltB := q5.lt; have ltZ := z5.lt
        have f0 := z5.free 0; have f1 := z5.free 1; have d0 := z5.cell0; have d1 := z5.cell1
        go_wp2_with fail
        have hzz := (z5.set0 (.slice none 0 0)).set1 (.slice none 0 0)
        refine bodyPost_ret (revs_ret rfl rfl hzz) rfl ?_
        rw [HF1.out, HF2.out]
        exact RevsOut.nil ((hB5.setCell (by rw [HB.out]; simp) _).setCell (by rw [HB.out]; simp) _)
      · have HK := Lib.hid hk
        have hF1 : Rv.revE live gone n = 0 := (Rv.revE_zero _ _ _).2 ⟨hO, hm, hk⟩
        have hF2 : Rv.revR live gone n = (live, Rv.ins gone n) := by unfold Rv.revR; rw [if_pos hF1]
        have HF1 := Lib.hid hF1; have HF2 := Lib.hid hF2
        have hle : gone.length ≤ 256 := Rv.gone_le hO
        clear hF1 hF2 hO hm hk
        go_enter Try.func13, Try.ntmps13
        go_wp2_with fail
        (try rw [HB.out])
        go_wp2_with fail
        refine (RCheck_any _ _ live gone _ R0.out S0.out hl hgl).mono ?_; rintro e w1 ⟨rfl, hb1⟩
        rw [HC.out]
        have hB1 := hb0.trans (hb1.mono hb0.size)
        have q1 := q0.stp hb1
        have z1 := z0.stp hb1
        have R1 := Lib.hid (R0.out.below hb1); have S1 := Lib.hid (S0.out.below hb1)
        clear hb1 c0 c1
        have c0 := q1.cell0; have c1 := q1.cell1; have ltB := q1.lt; have ltZ := z1.lt
        go_wp2_with fail
        refine (in_any al live.length cl w1).mono ?_; rintro e w2 ⟨rfl, hw⟩
        obtain ⟨D, hD⟩ : ∃ D, w1.heap.size = D := ⟨_, rfl⟩
        have b3 := Boxed.new w1 22 (.slice al live.length cl)
        rw [hw, hD] at b3
        rw [hD]
        have hb : Below w1.heap.size w1 w2 := by rw [← hw]; exact (Below.refl _ _).alloc (Nat.le_refl _) _
        have hB2 := hB1.trans (hb.mono hB1.size)
        have q2 := q1.stp hb; have z2 := z1.stp hb
        have R2 := Lib.hid (R1.out.below hb); have S2 := Lib.hid (S1.out.below hb)
        clear hb c0 c1 ltB ltZ
        have c0 := q2.cell0; have c1 := q2.cell1; have ltB := q2.lt; have ltZ := z2.lt
        clear hw hD
        have hI := in1_any n _ live D w2 b3 R2.out hl HO.out.1.1.2
        rw [decide_eq_true HM.out] at hI
        go_wp2_with fail
        refine hI.mono ?_; rintro e w3 ⟨rfl, hb⟩
        clear hI b3
        have hB3 := hB2.trans (hb.mono hB2.size)
        have q3 := q2.stp hb; have z3 := z2.stp hb
        have R3 := Lib.hid (R2.out.below hb); have S3 := Lib.hid (S2.out.below hb)
        clear hb c0 c1 ltB ltZ
        have c0 := q3.cell0; have c1 := q3.cell1; have ltB := q3.lt; have ltZ := z3.lt
        go_wp2_with fail
        refine (in_any ag gone.length cg w3).mono ?_; rintro e w4 ⟨rfl, hw⟩
        obtain ⟨D, hD⟩ : ∃ D, w3.heap.size = D := ⟨_, rfl⟩
        have b3 := Boxed.new w3 22 (.slice ag gone.length cg)
        rw [hw, hD] at b3
        rw [hD]
        have hb : Below w3.heap.size w3 w4 := by rw [← hw]; exact (Below.refl _ _).alloc (Nat.le_refl _) _
        have hB4 := hB3.trans (hb.mono hB3.size)
        have q4 := q3.stp hb; have z4 := z3.stp hb
        have R4 := Lib.hid (R3.out.below hb); have S4 := Lib.hid (S3.out.below hb)
        clear hb c0 c1 ltB ltZ
        have c0 := q4.cell0; have c1 := q4.cell1; have ltB := q4.lt; have ltZ := z4.lt
        clear hw hD
        have hI := in1_any n _ gone D w4 b3 S4.out hgl HO.out.1.2.1.2
        rw [decide_eq_false HK.out] at hI
        go_wp2_with fail
        refine hI.mono ?_; rintro e w5 ⟨rfl, hb⟩
        clear hI b3
        have hB5 := hB4.trans (hb.mono hB4.size)
        have q5 := q4.stp hb; have z5 := z4.stp hb
        have R5 := Lib.hid (R4.out.below hb); have S5 := Lib.hid (S4.out.below hb)
        clear hb c0 c1 ltB ltZ
        have c0 := q5.cell0; have c1 := q5.cell1; have ltB := q5.lt; have ltZ := z5.lt
        go_wp2_with fail
        have hW := with_any _ gone n _ S5.out (by omega) HO.out.1.2.1.2 hn
        obtain ⟨L, hL⟩ : ∃ L, Rv.ins gone n = L := ⟨_, rfl⟩
        rw [hL] at hW
        have HL := Lib.hid hL; clear hL
        refine hW.mono ?_; rintro e w6 ⟨a3, c3, rfl, r3, p3, hb⟩
        have o3 : Off B (.slice a3 L.length c3) := Past.off p3 ltB
        have o4 : Off (B + 1) (.slice a3 L.length c3) := Past.off p3 ltZ
        clear hW
        clear p3
        have hB6 := hB5.trans (hb.mono hB5.size)
        have q6 := q5.stp hb; have z6 := z5.stp hb
        have x2 := R5.out.below hb
        clear hb c0 c1 ltB ltZ
        have c0 := q6.cell0; have c1 := q6.cell1; have f0 := q6.free 0; have f1 := q6.free 1
        have ne : B + 1 ≠ B := by omega
        have zB := z6.other (p := ⟨B, 1, none⟩) (fun e => ne e.symm) (.slice a3 L.length c3)
        have qB := q6.set1 (.slice a3 L.length c3)
        have d0 := qB.cell0; have d1 := qB.cell1; have g0 := z6.free 0; have g1 := z6.free 1; have e0 := zB.cell0; have e1 := zB.cell1; have y0 := z6.cell0; have y1 := z6.cell1
        go_wp2_with fail
        have hzz := (zB.set0 (.slice al live.length cl)).set1 (.slice a3 L.length c3)
        refine bodyPost_ret (revs_ret rfl rfl hzz) rfl ?_
        rw [HF1.out, HF2.out, HL.out]
        refine ⟨⟨_, _, _, _, rfl, ?_, ?_⟩, ((hB6.setCell (by rw [HB.out]; simp) _).setCell (by rw [HB.out]; simp) _).setCell (by rw [HB.out]; simp) _⟩
        · exact ((x2.aside (p := ⟨B, 1, none⟩) OL.out _).aside (p := ⟨B + 1, 0, none⟩) OL2.out _).aside (p := ⟨B + 1, 1, none⟩) OL2.out _
        · exact ((r3.aside (p := ⟨B, 1, none⟩) o3 _).aside (p := ⟨B + 1, 0, none⟩) o4 _).aside (p := ⟨B + 1, 1, none⟩) o4 _
    · have HM := Lib.hid hm
      have hF1 : Rv.revE live gone n = 131 := by unfold Rv.revE; rw [if_pos hO, if_neg hm]
      have hF2 : Rv.revR live gone n = ([], []) := by unfold Rv.revR; rw [hF1, if_neg (by decide)]
      have HF1 := Lib.hid hF1; have HF2 := Lib.hid hF2
      clear hF1 hF2
      clear hO hm
      go_enter Try.func13, Try.ntmps13
      go_wp2_with fail
      (try rw [HB.out])
      go_wp2_with fail
      refine (RCheck_any _ _ live gone _ R0.out S0.out hl hgl).mono ?_; rintro e w1 ⟨rfl, hb1⟩
      rw [HC.out]
      have hB1 := hb0.trans (hb1.mono hb0.size)
      have q1 := q0.stp hb1
      have z1 := z0.stp hb1
      have R1 := Lib.hid (R0.out.below hb1); have S1 := Lib.hid (S0.out.below hb1)
      clear hb1 c0 c1
      have c0 := q1.cell0; have c1 := q1.cell1; have ltB := q1.lt; have ltZ := z1.lt
      go_wp2_with fail
      refine (in_any al live.length cl w1).mono ?_; rintro e w2 ⟨rfl, hw⟩
      obtain ⟨D, hD⟩ : ∃ D, w1.heap.size = D := ⟨_, rfl⟩
      have b3 := Boxed.new w1 22 (.slice al live.length cl)
      rw [hw, hD] at b3
      rw [hD]
      have hb : Below w1.heap.size w1 w2 := by rw [← hw]; exact (Below.refl _ _).alloc (Nat.le_refl _) _
      have hB2 := hB1.trans (hb.mono hB1.size)
      have q2 := q1.stp hb; have z2 := z1.stp hb
      have R2 := Lib.hid (R1.out.below hb); have S2 := Lib.hid (S1.out.below hb)
      clear hb c0 c1 ltB ltZ
      have c0 := q2.cell0; have c1 := q2.cell1; have ltB := q2.lt; have ltZ := z2.lt
      clear hw hD
      have hI := in1_any n _ live D w2 b3 R2.out hl HO.out.1.1.2
      rw [decide_eq_false HM.out] at hI
      go_wp2_with fail
      refine hI.mono ?_; rintro e w3 ⟨rfl, hb⟩
      clear hI b3
      have hB3 := hB2.trans (hb.mono hB2.size)
      have q3 := q2.stp hb; have z3 := z2.stp hb
      have R3 := Lib.hid (R2.out.below hb); have S3 := Lib.hid (S2.out.below hb)
      clear hb c0 c1 ltB ltZ
      have c0 := q3.cell0; have c1 := q3.cell1; have ltB := q3.lt; have ltZ := z3.lt
      have f0 := z3.free 0; have f1 := z3.free 1; have d0 := z3.cell0; have d1 := z3.cell1
      go_wp2_with fail
      have hzz := (z3.set0 (.slice none 0 0)).set1 (.slice none 0 0)
      refine bodyPost_ret (revs_ret rfl rfl hzz) rfl ?_
      rw [HF1.out, HF2.out]
      exact RevsOut.nil ((hB3.setCell (by rw [HB.out]; simp) _).setCell (by rw [HB.out]; simp) _)
  · have hck := Rv.chk_not hO
    have hF1 : Rv.revE live gone n = Rv.chk live gone := by unfold Rv.revE; rw [if_neg hO]
    have hF2 : Rv.revR live gone n = ([], []) := by unfold Rv.revR; rw [hF1, if_neg hck]
    obtain ⟨cc, hcc⟩ : ∃ cc, Rv.chk live gone = cc := ⟨_, rfl⟩
    rw [hcc] at hck hF1
    have HF1 := Lib.hid hF1; have HF2 := Lib.hid hF2; have HC := Lib.hid hcc
    clear hO hF1 hF2 hcc
    go_enter Try.func13, Try.ntmps13
    go_wp2_with fail
    (try rw [HB.out])
    go_wp2_with fail
    refine (RCheck_any _ _ live gone _ R0.out S0.out hl hgl).mono ?_; rintro e w1 ⟨rfl, hb1⟩
    rw [HC.out]
    have hB1 := hb0.trans (hb1.mono hb0.size)
    have q1 := q0.stp hb1
    have z1 := z0.stp hb1
    have R1 := Lib.hid (R0.out.below hb1); have S1 := Lib.hid (S0.out.below hb1)
    clear hb1 c0 c1
    have c0 := q1.cell0; have c1 := q1.cell1; have ltB := q1.lt; have ltZ := z1.lt
    have f0 := z1.free 0; have f1 := z1.free 1; have d0 := z1.cell0; have d1 := z1.cell1
    go_wp2_with fail
    have hzz := (z1.set0 (.slice none 0 0)).set1 (.slice none 0 0)
    refine bodyPost_ret (revs_ret rfl rfl hzz) rfl ?_
    rw [HF1.out, HF2.out]
    exact RevsOut.nil ((hB1.setCell (by rw [HB.out]; simp) _).setCell (by rw [HB.out]; simp) _)
end Go.Proofs.Ytconpdliadhahaa
end

section
namespace Go.Proofs.Ytconpdliadhahaa
open Go.RowKit Go.Shelf
attribute [local go_sem] Oper.semAt_some

theorem lvl_set {wr w2 : World} {G g base lim n : Nat} {T : TypeId} {z0 z1 z2 z3 : Value} (a b c d : Value) {xs : List Value} (zz : Quad w2 G T z0 z1 z2 z3) (own : w2.ownsRow base 5 1 (.slice (some ⟨g, 0, none⟩) n n) n xs) (hG : G < base) (hl : lim ≤ base)
    (hW : Below wr.heap.size wr w2) (hGw : wr.heap.size ≤ G) : Quad ((((w2.setCell ⟨G, 0, none⟩ a).setCell ⟨G, 1, none⟩ b).setCell ⟨G, 2, none⟩ c).setCell ⟨G, 3, none⟩ d) G T a b c d ∧
    Below wr.heap.size wr ((((w2.setCell ⟨G, 0, none⟩ a).setCell ⟨G, 1, none⟩ b).setCell ⟨G, 2, none⟩ c).setCell ⟨G, 3, none⟩ d) ∧
    ((((w2.setCell ⟨G, 0, none⟩ a).setCell ⟨G, 1, none⟩ b).setCell ⟨G, 2, none⟩ c).setCell ⟨G, 3, none⟩ d).ownsRow lim 5 1 (.slice (some ⟨g, 0, none⟩) n n) n xs := by
  have hg : base ≤ g := own_above own rfl
  have hne : ∀ o, (Value.slice (some ⟨g, 0, none⟩) n n).ownBlock ≠ some (⟨G, o, none⟩ : Addr).block := fun o e => by simp [Value.ownBlock] at e; omega
  exact ⟨(((zz.set0 a).set1 b).set2 c).set3 d, (((hW.setCell (p := ⟨G, 0, none⟩) hGw a).setCell (p := ⟨G, 1, none⟩) hGw b).setCell (p := ⟨G, 2, none⟩) hGw c).setCell (p := ⟨G, 3, none⟩) hGw d,
    owns_base (ownsRow_setCell_other (ownsRow_setCell_other (ownsRow_setCell_other (ownsRow_setCell_other own (hne 0) a) (hne 1) b) (hne 2) c) (hne 3) d) hl⟩
def TwoB (P Q : Nat) (k : Nat) : Prop := k = P ∨ k = Q

theorem boxed_other {W : World} {B g : Nat} {t : TypeId} {v : Value} (h : Boxed W B t v) (hne : B ≠ g) (o : Nat) (u : Value) : Boxed (W.setCell ⟨g, o, none⟩ u) B t v := (Below.heap_setCell W ⟨g, o, none⟩ u B hne).trans h
theorem boxed_ne {W : World} {B g : Nat} {t t' : TypeId} {v : Value} {cs : Array Value} {f : Nat × Nat} (h : Boxed W B t v) (h' : W.heap[g]? = some (.cells cs t' f)) (hne : t ≠ t') : g ≠ B := by
  rintro rfl
  rw [show W.heap[g]? = _ from h] at h'
  injection h' with h'
  injection h' with _ h2
  exact hne h2
/-- The round's end: the boxes are turned. -/
theorem lv_turn {V' w5 : World} {P D Q base b : Nat} {day : Int} {vi vo v5 : Value} {ins outs outs' : List Int} (i4 : LvIt V' P D Q day base vi vo ins outs) (hb6 : Below V'.heap.size V' w5)
    (own5 : w5.ownsRow b 3 1 v5 outs'.length (outs'.map (Value.int .i64))) (hwf : ∀ x ∈ outs', (Lit.int .i64 x).wf = true) (hPQ : P ≠ Q) (hbP : base ≤ P) (hbQ : base ≤ Q) :
    LvIt ((w5.setCell ⟨P, 0, none⟩ v5).setCell ⟨Q, 0, none⟩ vi) P D Q day base v5 vi outs' ins ∧ Only (TwoB P Q) V' ((w5.setCell ⟨P, 0, none⟩ v5).setCell ⟨Q, 0, none⟩ vi) := by
  have i5 := i4.stp hb6
  have hint : (22 : TypeId) ≠ 3 := by decide
  have hDP : D ≠ P := boxed_ne i5.pin i5.pday hint
  have hDQ : D ≠ Q := boxed_ne i5.pout i5.pday hint
  have hsz : ((w5.setCell ⟨P, 0, none⟩ v5).setCell ⟨Q, 0, none⟩ vi).heap.size = w5.heap.size := by simp
  have keep : ∀ k, k ≠ P → k ≠ Q → ((w5.setCell ⟨P, 0, none⟩ v5).setCell ⟨Q, 0, none⟩ vi).heap[k]? = w5.heap[k]? := fun k h1 h2 =>
    (Below.heap_setCell _ ⟨Q, 0, none⟩ vi k h2).trans (Below.heap_setCell w5 ⟨P, 0, none⟩ v5 k h1)
  have typed : ∀ {k : Nat} {cs : Array Value} {f : Nat × Nat}, w5.heap[k]? = some (.cells cs 3 f) → ((w5.setCell ⟨P, 0, none⟩ v5).setCell ⟨Q, 0, none⟩ vi).heap[k]? = w5.heap[k]? := fun h =>
    keep _ (boxed_ne i5.pin h hint) (boxed_ne i5.pout h hint)
  have own_at : ∀ b' o n c, v5 = .slice (some ⟨b', o, none⟩) n c → ∃ cs f, w5.heap[b']? = some (.cells cs 3 f) := by
    intro b' o n c e
    rcases own5.2 with ⟨h1, _⟩ | ⟨g', cap', cur, h1, _, hh, _⟩
    · rw [h1] at e; cases e
    · rw [h1] at e; cases e
      exact ⟨_, _, hh⟩
  refine ⟨⟨boxed_other (Boxed.set v5 i5.pin) hPQ 0 _, (keep D hDP hDQ).trans i5.pday, Boxed.set vi (boxed_other i5.pout (fun e => hPQ e.symm) 0 _), ?_, ?_, ?_, ?_⟩, ?_⟩
  · refine (Row.owned64 own5 hwf).keep (by rw [hsz]; exact Nat.le_refl _) fun b' o n c e _ _ => ?_
    obtain ⟨cs, f, h⟩ := own_at b' o n c e
    exact typed h
  · refine i5.rin.keep (by rw [hsz]; exact Nat.le_refl _) fun b' o n c e hn _ => ?_
    rcases i5.sin b' o n c e hn with h | ⟨cs, f, h⟩
    · exact keep b' (by omega) (by omega)
    · exact typed h
  · intro b' o n c e _
    obtain ⟨cs, f, h⟩ := own_at b' o n c e
    exact .inr ⟨cs, f, (typed h).trans h⟩
  · intro b' o n c e hn
    rcases i5.sin b' o n c e hn with h | ⟨cs, f, h⟩
    · exact .inl h
    · exact .inr ⟨cs, f, (typed h).trans h⟩
  · exact ((Only.of_below hb6 _).setCell (p := ⟨P, 0, none⟩) (.inl (.inl rfl)) _).setCell (p := ⟨Q, 0, none⟩) (.inl (.inr rfl)) _

set_option maxRecDepth 100000 in
set_option maxHeartbeats 8000000 in
theorem levels1_in (n0 : Nat) (hn : 1 ≤ n0) (L P D Q base lim : Nat) (day : Int) (ins0 outs0 : List Int) (hd : Cm.dated day) (J Jx : List Lvl → World → Prop)
    (hJ : ∀ pre W W', J pre W → Only (TwoB P Q) W W' → J pre W')
    (hY : ∀ pre (x : Lvl) V0 V, J pre V0 → Below V0.heap.size V0 V → LvR day ins0 outs0 lim pre x V0 V → YieldAt Fence.wide (n0 - 1) Try.prog L (lvEnc x) V fun e V' =>
      (e = .returned (.bool true) ∧ J (pre ++ [x]) V' ∧ LvK base (pre ++ [x]) V V') ∨ (e = .returned (.bool false) ∧ Jx (pre ++ [x]) V'))
    (W : World) (vi vo : Value) (hPQ : P ≠ Q) (hbP : base ≤ P) (hbQ : base ≤ Q) (hI : LvIt W P D Q day base vi vo ins0 outs0) (hi0 : NumL ins0) (ho0 : NumL outs0) (hlim : lim ≤ W.heap.size) (h0 : J [] W) :
    CallsIn Fence.wide n0 Try.prog 63 #[.func (.yield L) #[] #[], .pointer (some ⟨P, 0, none⟩), .pointer (some ⟨D, 0, none⟩), .pointer (some ⟨Q, 0, none⟩)] W fun e W' => (∃ v, e = .returned v) ∧
      ((∃ xs : List Lvl, Cm.build day 16 0 ins0 outs0 = some (xs.map (·.s)) ∧ J xs W') ∨ (∃ pre : List Lvl, True ∧ Jx pre W')) := by
  have hst := LvSt.start (day := day) hi0 ho0
  refine callsIn_of_wp Try.func63 rfl trivial ?_ rfl
  simp only [Try.ntmps63, List.size_toArray, List.length_cons, List.length_nil, Nat.reduceAdd, Nat.reduceSub, Array.replicate_succ, Array.replicate_zero, List.push_toArray, List.append_toArray, List.nil_append, List.cons_append]
  gi_wp2
  gi_loopw [5] (fun i wr => ∃ (j : Nat) (pre : List Lvl) (wi wo : Value) (ins outs : List Int), i = .int .i64 j ∧ pre.length = j ∧ j ≤ 16 ∧ J pre wr ∧ LvIt wr P D Q day base wi wo ins outs ∧ lim ≤ wr.heap.size ∧
    ((ins = [] ∧ pre ≠ [] ∧ Cm.build day 16 0 ins0 outs0 = some (pre.map (·.s))) ∨ ((pre = [] ∨ ins ≠ []) ∧ LvSt day ins0 outs0 (pre.map (·.s)) ins outs))) (fun i _ => 17 - (intOf i).toNat)
  case atStart => exact ⟨0, [], vi, vo, ins0, outs0, rfl, rfl, by omega, h0, hI, hlim, .inr ⟨.inl rfl, hst⟩⟩
  case round =>
    obtain ⟨j, pre, wi, wo, ins, outs, rfl, hpl, hj, hJs, hIr, hlr, hcase⟩ := hrel
    clear hI h0 hst
    have p0 := hIr.pin.cell
    obtain ⟨ai, ci, rfl⟩ := hIr.rin.shape ins.length rfl
    obtain ⟨ao, co, rfl⟩ := hIr.rout.shape outs.length rfl
    rcases hcase with ⟨rfl, hne, hbuild⟩ | ⟨hor, hSt⟩
    · have hj0 : ¬ (j : Int) = 0 := by
        intro e
        exact hne (List.length_eq_zero_iff.1 (by omega))
      have HF := Lib.hid hbuild
      clear hbuild hne
      gi_wp2
      go_end0
      exact ⟨⟨_, rfl⟩, .inl ⟨pre, HF.out, hJs⟩⟩
    · have hlen : (pre.map (·.s)).length = j := by rw [List.length_map]; exact hpl
      have d0 := hIr.pday.cell
      have q0 := hIr.pout.cell
      obtain ⟨s, hs⟩ : ∃ s, Cm.lv day j ins = s := ⟨_, rfl⟩
      obtain ⟨m, hm⟩ : ∃ m, max 1 (ins.length : Int) = m := ⟨_, rfl⟩
      have hm1 : 1 ≤ m := by omega
      have hm2 : m ≤ 256 := by have := hSt.2.2.1.1; omega
      have em : IntKind.i64.wrap (8 * m) = 8 * m := IntWalk.i64_in _ (by omega)
      obtain ⟨sa, hsa⟩ : ∃ sa, 16 * day + (j : Int) = sa := ⟨_, rfl⟩
      have hsalt : ∀ (W' : World) (z : Int), z = j → Calls Try.prog 43 #[.int .i64 day, .int .i64 z] W' fun e w' => e = .returned (.int .i64 sa) ∧ w' = W' := by
        intro W' z hz
        subst hz
        rw [← hsa]
        exact (salt_any day j W' hd.1 hd.2 (by omega) (by omega)).mono fun _ _ h => ⟨h.1, h.2.symm⟩
      have HSa := Lib.hid hsa
      clear hsa
      have ltP := hIr.pin.lt; have ltD := hIr.pday.lt
      have nP1 : ¬ P = wr.heap.size := by omega
      have nP2 : ¬ wr.heap.size = P := by omega
      have nD1 : ¬ D = wr.heap.size := by omega
      have nD2 : ¬ wr.heap.size = D := by omega
      have HIr := Lib.hid hIr; have HSt := Lib.hid hSt; have HS := Lib.hid hs; have HL := Lib.hid hlen; have HPL := Lib.hid hpl; have HM := Lib.hid hm
      have HOr := Lib.hid hor
      have k0 : (0 : Int) ≤ (j : Int) := by omega
      have hnl := hSt.2.2.1
      have HNL := Lib.hid hnl
      clear hIr hSt hs hlen hpl hor hnl
      have hpos : ¬ (j : Int) = 0 → 0 < (ins.length : Int) := by
        intro h
        rcases HOr.out with h2 | h2
        · subst h2; have := HPL.out; simp at this; omega
        · have := List.length_pos_iff.2 h2; omega
      gi_upto_region 1 with fail
      gi_cut [5, 14] from 8 (fun s5 s14 wx => s5 = .int .i64 j ∧ (∃ b : Bool, s14 = .bool b ∧ b = true) ∧ wr = wx)
      case first =>
        by_cases hj0 : (j : Int) = 0
        case' neg =>
          have hpos' := hpos hj0
          have hj0b : ((j : Int) == 0) = false := by simpa using hj0
        all_goals
          clear hpos
          gi_wp2
          gi_meet
          case rel => exact ⟨by first | rfl | rw [hj0], ⟨_, rfl, by first | rfl | (simp; omega)⟩, rfl⟩
      case rest =>
        obtain ⟨rfl, ⟨b, rfl, rfl⟩, rfl⟩ := hcut
        clear hpos
        gi_upto_region 3 with fail
        gi_cut [6, 7] from 8 (fun s6 s7 X => ∃ G g, s6 = .pointer (some ⟨G, 0, none⟩) ∧ s7 = .int .i64 0 ∧ Quad X G 57 (.int .i64 s.bits) (.int .i64 s.hashes) (.int .i64 s.salt) (.slice (some ⟨g, 0, none⟩) s.b.length s.b.length) ∧ Below wr.heap.size wr X ∧
          X.ownsRow lim 5 1 (.slice (some ⟨g, 0, none⟩) s.b.length s.b.length) s.b.length (s.b.map (Value.int .u8)) ∧ wr.heap.size ≤ G ∧ ∀ y ∈ s.b, byte y)
        case first =>
          refine wpIn_wide.2 ?_
          go_region_held3 (fun w' => w'.cell? ⟨P, 0, none⟩ = some (.slice ai ins.length ci) ∧ w'.cell? ⟨D, 0, none⟩ = some (.int .i64 day))
            (first | go_keep | (refine ⟨?_, ?_⟩ <;> assumption))
            (first
            | (go_at_call 43; refine (hsalt _ _ (by omega)).mono ?_; rintro e w2 ⟨rfl, rfl⟩)
            | (go_at_call 64
               refine (LvOf_any _ ins day j s _ (by first | exact HIr.out.rin | exact HIr.out.rin.drew | exact (HIr.out.rin.alloc _).drew | exact HIr.out.rin.alloc _) HNL.out hd hj HS.out m HM.out sa HSa.out).mono ?_
               rintro e w2 ⟨g, rfl, own, hby, hb2⟩
               first | (have hW2 : Below wr.heap.size wr w2 := bel_stp (bel_drew (Below.refl wr.heap.size wr)) hb2) | (have hW2 : Below wr.heap.size wr w2 := bel_stp (bel_drew (bel_alloc (Below.refl wr.heap.size wr) _)) hb2)
               have i2 := HIr.out.stp hW2
               have y0 := i2.pin.cell; have y1 := i2.pday.cell
               have ltW := i2.pin.lt; have ltW' := i2.pday.lt
               have nW1 : ¬ P = w2.heap.size := by omega
               have nW2 : ¬ w2.heap.size = P := by omega
               have nW3 : ¬ D = w2.heap.size := by omega
               have nW4 : ¬ w2.heap.size = D := by omega
               first | (have zz : Quad w2 wr.heap.size 57 (.int .i64 0) (.int .i64 0) (.int .i64 0) (.slice none 0 0) := ?_; rotate_left; (focus (refine Quad.stp ?_ hb2; refine Quad.drew ?_; refine Quad.new' _ _ _ _ _ _ _ ?_; rfl)); have z0 := zz.cell0; have z1 := zz.cell1; have z2 := zz.cell2; have z3 := zz.cell3; have u0 := zz.free 0; have u1 := zz.free 1; have u2 := zz.free 2; have u3 := zz.free 3) | skip)
            | fail)
          all_goals
            first
              | (have h3 := lvl_set (lim := lim) (.int .i64 s.bits) (.int .i64 s.hashes) (.int .i64 s.salt) (.slice (some ⟨g, 0, none⟩) s.b.length s.b.length) zz own (by simp) (by simp; omega) hW2 (Nat.le_refl _)
                 obtain ⟨qX, hX, oX⟩ := h3
                 generalize hXe : (((w2.setCell ⟨wr.heap.size, 0, none⟩ (.int .i64 s.bits)).setCell ⟨wr.heap.size, 1, none⟩ (.int .i64 s.hashes)).setCell ⟨wr.heap.size, 2, none⟩ (.int .i64 s.salt)).setCell ⟨wr.heap.size, 3, none⟩ (.slice (some ⟨g, 0, none⟩) s.b.length s.b.length) = X at qX hX oX ⊢
                 obtain ⟨G, hG⟩ : ∃ G, G = wr.heap.size := ⟨_, rfl⟩
                 rw [← hG] at qX ⊢
                 have hG1 : wr.heap.size ≤ G := by omega
                 clear hG hXe zz z0 z1 z2 z3 u0 u1 u2 u3)
              | (have qX := Quad.new w2 57 (.int .i64 s.bits) (.int .i64 s.hashes) (.int .i64 s.salt) (.slice (some ⟨g, 0, none⟩) s.b.length s.b.length)
                 have hX := bel_alloc hW2 (.cells #[.int .i64 s.bits, .int .i64 s.hashes, .int .i64 s.salt, .slice (some ⟨g, 0, none⟩) s.b.length s.b.length] 57)
                 have oX := owns_base (own.alloc (.cells #[.int .i64 s.bits, .int .i64 s.hashes, .int .i64 s.salt, .slice (some ⟨g, 0, none⟩) s.b.length s.b.length] 57)) (b' := lim) (by first | omega | (simp; omega))
                 generalize hXe : w2.alloc (.cells #[.int .i64 s.bits, .int .i64 s.hashes, .int .i64 s.salt, .slice (some ⟨g, 0, none⟩) s.b.length s.b.length] 57) = X at qX hX oX ⊢
                 have hG1 := hW2.size
                 obtain ⟨G, hG⟩ : ∃ G, G = w2.heap.size := ⟨_, rfl⟩
                 rw [← hG] at qX hG1 ⊢
                 clear hG hXe)
            gi_wp2
            gi_meet
            case rel => exact ⟨G, g, rfl, rfl, qX, hX, oX, hG1, hby⟩
        case rest =>
          obtain ⟨X, hXw⟩ : ∃ X, X = wc := ⟨_, rfl⟩
          subst hXw
          obtain ⟨G, g, rfl, rfl, qX, hX, oX, hG1, hby⟩ := hcut
          have hG2 := qX.lt
          clear p0 d0 q0 ltP ltD nP1 nP2 nD1 nD2
          have i3 := HIr.out.stp hX
          have hR : LvR day ins0 outs0 lim pre ⟨j, s, .slice (some ⟨g, 0, none⟩) s.b.length s.b.length, G⟩ wr X := by
            refine ⟨HPL.out.symm, by rw [HPL.out]; omega, ⟨oX, hby⟩, ⟨hG1, hG2⟩, fun h => HSt.out.none ?_⟩
            rw [HL.out, ← HPL.out, h]
          obtain ⟨fn, tmps, assign, body, hy0, hRd⟩ := hY pre _ wr X hJs hX hR
          have hy : (Instr.yield L #[.int .i64 j, .agg #[.int .i64 s.bits, .int .i64 s.hashes, .int .i64 s.salt, .slice (some ⟨g, 0, none⟩) s.b.length s.b.length, .int .i64 0]]).run Try.prog X = .ok (.round L fn tmps assign body) X := hy0
          clear hy0 hR hJs
          have c0 := qX.cell0; have c1 := qX.cell1; have c2 := qX.cell2; have c3 := qX.cell3
          gi_wp2
          refine hRd.mono ?_
          rintro e V' (⟨rfl, hJ', hK16, hK⟩ | ⟨rfl, hJx'⟩)
          · have hkeep := hK _ (List.getLast?_concat)
            have i4 := i3.keep hkeep
            have q4 : Quad V' G 57 (.int .i64 s.bits) (.int .i64 s.hashes) (.int .i64 s.salt) (.slice (some ⟨g, 0, none⟩) s.b.length s.b.length) := (hkeep.2 G hG2 (.inr (.inl ⟨rfl, _, _, _, qX⟩))).trans qX
            have hj16 : j < 16 := by have := HPL.out; simp at hK16; omega
            have og : V'.ownsRow lim 5 1 (.slice (some ⟨g, 0, none⟩) s.b.length s.b.length) s.b.length (s.b.map (Value.int .u8)) := by
              refine owns_kept oX ?_
              rcases oX.2 with ⟨h1, _⟩ | ⟨g', cap', cur, h1, _, hh, _⟩
              · cases h1
              · cases h1
                exact hkeep.2 _ (Array.getElem?_eq_some_iff.1 hh).1 (.inr (.inr ⟨_, _, _, hh, .inr (.inr rfl)⟩))
            have rg := owns_row og hby
            have hlV : lim ≤ V'.heap.size := Nat.le_trans hlr (Nat.le_trans hX.size hkeep.1)
            clear hRd hy hK16 hK c0 c1 c2 c3 hX oX qX i3 og hkeep
            have c0 := q4.cell0; have c1 := q4.cell1; have c2 := q4.cell2; have c3 := q4.cell3
            have p0 := i4.pin.cell; have q0 := i4.pout.cell; have fp := i4.pin.frozen; have fq := i4.pout.frozen
            have ltP := i4.pin.lt; have ltQ := i4.pout.lt
            have nPQ : ¬ Q = P := fun e => hPQ e.symm
            have hSo := fun (X' : World) (hX' : Below V'.heap.size V' X') => Some_any s _ _ outs X' (rg.below hX') (i4.rout.below hX') (by have := HSt.out.2.2.2.1; omega)
            obtain ⟨outs', ho'⟩ : ∃ outs', outs.filter (Sm.has s) = outs' := ⟨_, rfl⟩
            rw [ho'] at hSo
            have hwf' : ∀ x ∈ outs', (Lit.int .i64 x).wf = true := fun x hx => by rw [← ho'] at hx; exact i4.rout.wf x (List.mem_filter.1 hx).1
            have hnxt : (outs' = [] ∧ Cm.build day 16 0 ins0 outs0 = some ((pre ++ [(⟨j, s, .slice (some ⟨g, 0, none⟩) s.b.length s.b.length, G⟩ : Lvl)]).map (·.s))) ∨ (outs' ≠ [] ∧ LvSt day ins0 outs0 ((pre ++ [(⟨j, s, .slice (some ⟨g, 0, none⟩) s.b.length s.b.length, G⟩ : Lvl)]).map (·.s)) outs' ins) := by
              have e : (pre ++ [(⟨j, s, .slice (some ⟨g, 0, none⟩) s.b.length s.b.length, G⟩ : Lvl)]).map (·.s) = pre.map (·.s) ++ [s] := by simp
              rw [e]
              have h16 : (pre.map (·.s)).length < 16 := by rw [HL.out]; exact hj16
              have hfl : outs.filter (Sm.has (Cm.lv day (pre.map (·.s)).length ins)) = outs' := by rw [HL.out, HS.out]; exact ho'
              have hsl : Cm.lv day (pre.map (·.s)).length ins = s := by rw [HL.out]; exact HS.out
              by_cases hn : outs' = []
              · have := HSt.out.last h16 (hfl.trans hn)
                rw [hsl] at this
                exact .inl ⟨hn, this⟩
              · have := HSt.out.next h16 (by rw [hfl]; exact hn)
                rw [hsl] at this
                rw [hsl] at hfl
                rw [hfl] at this
                exact .inr ⟨hn, this⟩
            have HNx := Lib.hid hnxt; have HWf := Lib.hid hwf'
            clear hnxt hwf'
            have HO := Lib.hid ho'
            have RG := Lib.hid rg; have I4 := Lib.hid i4; have Q4 := Lib.hid q4
            clear rg i4 q4 ho'
            gi_wp2
            refine wpIn_wide.2 ?_
            go_region_with ((go_at_call 65; refine (hSo _ (by first | exact Below.refl _ _ | exact (Below.refl _ _).drew | exact bel_drewN (Below.refl _ _) _)).mono ?_; rintro e w5 ⟨v5, rfl, own5, hb5⟩; obtain ⟨a5, n5, c5, rfl⟩ := owns_slice own5; have hb6 : Below V'.heap.size V' w5 := ⟨hb5.os, hb5.tape, hb5.output, hb5.size, hb5.block⟩; have i5 := I4.out.stp hb6; have p5 := i5.pin.cell; have q5 := i5.pout.cell; have fp5 := i5.pin.frozen; have fq5 := i5.pout.frozen))
            all_goals
              have ht := lv_turn I4.out hb6 own5 HWf.out hPQ hbP hbQ
              have hn5 : n5 = outs'.length := by
                rcases own5.2 with ⟨h1, h2⟩ | ⟨g', cap', cur, h1, _⟩
                · cases h1; omega
                · cases h1; rfl
              subst hn5
              have hsz := (ht.2).size
              generalize (w5.setCell ⟨P, 0, none⟩ (.slice a5 outs'.length c5)).setCell ⟨Q, 0, none⟩ (.slice ai ins.length ci) = Y at ht hsz ⊢
              have HT := Lib.hid ht
              clear ht own5 hb5 hb6 i5 p5 q5 fp5 fq5 p0 q0 fp fq c0 c1 c2 c3 hSo
              gi_wp2
              go_roundw
              case rel =>
                refine ⟨j + 1, pre ++ [⟨j, s, .slice (some ⟨g, 0, none⟩) s.b.length s.b.length, G⟩], _, _, outs', ins, by go_num, by simp [HPL.out], by omega, hJ _ _ _ hJ' HT.out.2, HT.out.1, by omega, ?_⟩
                rcases HNx.out with ⟨h1, h2⟩ | ⟨h1, h2⟩
                · exact .inl ⟨h1, by simp, h2⟩
                · exact .inr ⟨.inr h1, h2⟩
              case measure => simp [intOf]; omega
          · gi_wp2
            refine bodyPost_ret (results_none rfl _ _ _) rfl ⟨⟨_, rfl⟩, .inr ⟨_, trivial, hJx'⟩⟩
end Go.Proofs.Ytconpdliadhahaa
end

section
namespace Go.Proofs.Ytconpdliadhahaa
open Go.RowKit

/-- Results: an aggregate and a number, both in memory. -/
theorem results_agg_cell {P : Program} {fn : Func} {p q : Tmp} {t1 t2 : TypeId} (h : fn.results = #[.cell p t1, .cell q t2]) (tmps : Array Value) (w : World) (g1 g2 : Nat) (t' e2 : TypeId) (cs : Array Value) (fr : Nat × Nat) (v2 : Value) (d d2 : TypeDesc)
    (hp : tmps.getD p undef = .pointer (some ⟨g1, 0, none⟩)) (hg : w.heap[g1]? = some (.cells cs t' fr)) (hu : P.underlying t1 = some d) (hd : (match d with | .struct _ | .array _ _ => true | _ => false) = true) (hi : (P.info? t1).map (·.size) = some cs.size)
    (hq : tmps.getD q undef = .pointer (some ⟨g2, 0, none⟩)) (hg2 : Boxed w g2 e2 v2) (hu2 : P.underlying t2 = some d2) (hd2 : (match d2 with | .struct _ | .array _ _ => true | _ => false) = false) :
    (results fn tmps).run P w = .ok (.tuple #[.agg cs, v2]) w := by
  have hp' : tmps[p]?.getD undef = .pointer (some ⟨g1, 0, none⟩) := by simpa using hp
  have hq' : tmps[q]?.getD undef = .pointer (some ⟨g2, 0, none⟩) := by simpa using hq
  have hl : (loadVar t2 ⟨g2, 0, none⟩).run P w = .ok v2 w := by
    have hagg : (isAgg t2).run P w = .ok false w := by
      unfold isAgg
      rw [Sem.run_bind, run_underlying hu2 w]
      cases d2 <;> simp_all
    have hc := hg2.cell
    simp [loadVar, Sem.run_bind, hagg]
    simp [hc]
  simp [results, h, hp', hq', asAddr, run_loadVar_row w g1 t' t1 cs fr d hg hu hd hi, hl]
theorem casc_ret {tmps : Array Value} {W : World} {C E : Nat} {fn : Func} {p q : Tmp} (hr : fn.results = #[.cell p 35, .cell q 27]) (hp : tmps.getD p undef = .pointer (some ⟨C, 0, none⟩)) (hq : tmps.getD q undef = .pointer (some ⟨E, 0, none⟩)) {x y z : Value}
    (hd : Duo W C 35 x y) (he : Boxed W E 27 z) : (results fn tmps).run Try.prog W = .ok (.tuple #[.agg #[x, y], z]) W :=
  results_agg_cell hr _ _ C E _ _ _ _ _ _ _ hp hd Try.underlying35 rfl (by kernel_rfl) hq he Try.underlying27 rfl

/-- What Make hands back where there is none. -/
def NoCasc (w w' : World) (e : Ending) (c : Int) : Prop := e = .returned (.tuple #[.agg #[.int .i64 0, .slice none 0 0], .int .i64 c]) ∧ Below w.heap.size w w'

set_option maxRecDepth 100000 in
set_option maxHeartbeats 2000000 in
theorem Make_arg (vi vo : Value) (ins outs : List Int) (day : Int) (w : World) (hi : Row .i64 w vi ins) (ho : Row .i64 w vo outs) (hil : ins.length ≤ 1000000) (hol : outs.length ≤ 1000000) (hno : ¬ (NumOk ins ∧ NumOk outs ∧ Cm.dated day)) :
    Calls Try.prog 36 #[vi, vo, .int .i64 day] w fun e w' => NoCasc w w' e 1 := by
  obtain ⟨ai, ci, rfl⟩ := hi.shape ins.length rfl
  obtain ⟨ao, co, rfl⟩ := ho.shape outs.length rfl
  obtain ⟨C, hC⟩ : ∃ C, w.heap.size = C := ⟨_, rfl⟩
  have q0 := (Duo.new w 35 (.int .i64 0) (.slice none 0 0)).alloc (.cells #[.int .i64 0] 27)
  have e0 := Boxed.new (w.alloc (.cells #[.int .i64 0, .slice none 0 0] 35)) 27 (.int .i64 0)
  have hb0 := ((Below.refl w.heap.size w).alloc (Nat.le_refl _) (.cells #[.int .i64 0, .slice none 0 0] 35)).alloc (by simp) (.cells #[.int .i64 0] 27)
  have ri := (hi.alloc (.cells #[.int .i64 0, .slice none 0 0] 35)).alloc (.cells #[.int .i64 0] 27)
  have ro := (ho.alloc (.cells #[.int .i64 0, .slice none 0 0] 35)).alloc (.cells #[.int .i64 0] 27)
  rw [hC] at q0
  rw [World.size_alloc, hC] at e0
  obtain ⟨W, hW⟩ : ∃ W, (w.alloc (.cells #[.int .i64 0, .slice none 0 0] 35)).alloc (.cells #[.int .i64 0] 27) = W := ⟨_, rfl⟩
  rw [hW] at q0 e0 hb0 ri ro
  have hN := fun (v : Value) (l : List Int) (h : Row .i64 W v l) (hl : l.length ≤ 1000000) => numbers_any v l W h hl
  have HW := Lib.hid hW; have HC := Lib.hid hC
  have RI := Lib.hid ri; have RO := Lib.hid ro
  clear hi ho ri ro hW hC
  have c0 := q0.cell0; have c1 := q0.cell1; have f0 := q0.free 0; have f1 := q0.free 1; have ce := e0.cell; have fe := e0.frozen
  have nCE : ¬ C = C + 1 := by omega
  have nEC : ¬ C + 1 = C := by omega
  have qz := ((q0.set0 (.int .i64 0)).set1 (.slice none 0 0)).other (p := ⟨C + 1, 0, none⟩) (by simp) (.int .i64 1)
  have ez := Boxed.set (.int .i64 1) (show Boxed ((W.setCell ⟨C, 0, none⟩ (.int .i64 0)).setCell ⟨C, 1, none⟩ (.slice none 0 0)) (C + 1) 27 (.int .i64 0) from boxed_other (boxed_other e0 nEC 0 _) nEC 1 _)
  have hbz : Below w.heap.size w (((W.setCell ⟨C, 0, none⟩ (.int .i64 0)).setCell ⟨C, 1, none⟩ (.slice none 0 0)).setCell ⟨C + 1, 0, none⟩ (.int .i64 1)) :=
    ((hb0.setCell (by rw [HC.out]; simp) _).setCell (by rw [HC.out]; simp) _).setCell (by rw [HC.out]; simp) _
  have QZ := Lib.hid qz; have EZ := Lib.hid ez; have HBZ := Lib.hid hbz
  clear qz ez hbz nCE nEC
  by_cases h1 : NumOk ins
  · by_cases h2 : NumOk outs
    · have h3 : ¬ Cm.dated day := fun h => hno ⟨h1, h2, h⟩
      have k1 := hN _ ins RI.out hil
      have k2 := hN _ outs RO.out hol
      have k3 := dated_any day W
      rw [decide_eq_true h1] at k1
      rw [decide_eq_true h2] at k2
      rw [decide_eq_false h3] at k3
      clear h1 h2 h3 hno hN
      go_enter Try.func36, Try.ntmps36
      go_wp2_with fail
      rw [HW.out]
      (try rw [HC.out])
      refine wp_scope_straight ?_
      go_wp2_with fail
      refine k1.mono ?_; rintro e w1 ⟨rfl, rfl⟩
      go_wp2_with fail
      refine k2.mono ?_; rintro e w1 ⟨rfl, rfl⟩
      go_wp2_with fail
      refine k3.mono ?_; rintro e w1 ⟨rfl, rfl⟩
      go_wp2_with fail
      rw [Exit.noGoto_ret]
      exact bodyPost_ret (casc_ret rfl rfl rfl QZ.out EZ.out) rfl ⟨rfl, by first | exact HBZ.out | (rw [← HC.out]; exact HBZ.out)⟩
    · have k1 := hN _ ins RI.out hil
      have k2 := hN _ outs RO.out hol
      rw [decide_eq_true h1] at k1
      rw [decide_eq_false h2] at k2
      clear h1 h2 hno hN
      go_enter Try.func36, Try.ntmps36
      go_wp2_with fail
      rw [HW.out]
      (try rw [HC.out])
      refine wp_scope_straight ?_
      go_wp2_with fail
      refine k1.mono ?_; rintro e w1 ⟨rfl, rfl⟩
      go_wp2_with fail
      refine k2.mono ?_; rintro e w1 ⟨rfl, rfl⟩
      go_wp2_with fail
      rw [Exit.noGoto_ret]
      exact bodyPost_ret (casc_ret rfl rfl rfl QZ.out EZ.out) rfl ⟨rfl, by first | exact HBZ.out | (rw [← HC.out]; exact HBZ.out)⟩
  · have k1 := hN _ ins RI.out hil
    rw [decide_eq_false h1] at k1
    clear h1 hno hN
    go_enter Try.func36, Try.ntmps36
    go_wp2_with fail
    rw [HW.out]
    (try rw [HC.out])
    refine wp_scope_straight ?_
    go_wp2_with fail
    refine k1.mono ?_; rintro e w1 ⟨rfl, rfl⟩
    go_wp2_with fail
    rw [Exit.noGoto_ret]
    exact bodyPost_ret (casc_ret rfl rfl rfl QZ.out EZ.out) rfl ⟨rfl, by first | exact HBZ.out | (rw [← HC.out]; exact HBZ.out)⟩
end Go.Proofs.Ytconpdliadhahaa
end

section
namespace Go.Proofs.Ytconpdliadhahaa
open Go.RowKit

/-- The numbers of ins from k on are still to be sought, in the rest r of outs. -/
def Seek (ins outs : List Int) (k : Nat) (r : List Int) : Prop := (∃ p, outs = p ++ r ∧ ∀ y ∈ p, ∀ i, k ≤ i → i < ins.length → y < ins[i]?.getD 0) ∧ ∀ i, i < k → i < ins.length → ins[i]?.getD 0 ∉ outs
theorem Seek.start (ins outs : List Int) : Seek ins outs 0 outs := ⟨⟨[], rfl, by simp⟩, fun i hi => by omega⟩
theorem rises_lt {l : List Int} (h : Rv.rises l) {i j : Nat} (hij : i < j) (hj : j < l.length) : l[i]?.getD 0 < l[j]?.getD 0 := by
  have := List.pairwise_iff_getElem.1 h.2 i j (by omega) hj hij
  rw [List.getElem?_eq_getElem hj, List.getElem?_eq_getElem (show i < l.length by omega)]
  exact this
theorem Seek.skip {ins outs r : List Int} {k : Nat} {y : Int} (h : Seek ins outs k (y :: r)) (hs : Rv.rises ins) (hk : k < ins.length) (hy : y < ins[k]?.getD 0) : Seek ins outs k r := by
  obtain ⟨⟨p, e, hp⟩, h2⟩ := h
  refine ⟨⟨p ++ [y], by rw [e]; simp, fun z hz i hi hl => ?_⟩, h2⟩
  rcases List.mem_append.1 hz with hz | hz
  · exact hp z hz i hi hl
  · rw [List.mem_singleton.1 hz]
    rcases Nat.lt_or_ge k i with h | h
    · have := rises_lt hs h hl; omega
    · obtain rfl : i = k := by omega
      exact hy
theorem Seek.next {ins outs r : List Int} {k : Nat} {y : Int} (h : Seek ins outs k (y :: r)) (hs : Rv.rises outs) (hk : k < ins.length) (hy : ins[k]?.getD 0 < y) : Seek ins outs (k + 1) (y :: r) := by
  obtain ⟨⟨p, e, hp⟩, h2⟩ := h
  refine ⟨⟨p, e, fun z hz i hi hl => hp z hz i (by omega) hl⟩, fun i hi hl => ?_⟩
  rcases Nat.lt_or_ge i k with h | h
  · exact h2 i h hl
  · obtain rfl : i = k := by omega
    intro hm
    rw [e] at hm hs
    have hpw := (List.pairwise_append.1 hs.2).2.1
    rcases List.mem_append.1 hm with hm | hm
    · have := hp _ hm i (Nat.le_refl _) hl; omega
    · rcases List.mem_cons.1 hm with hm | hm
      · omega
      · have := List.rel_of_pairwise_cons hpw hm; omega
theorem Seek.done {ins outs r : List Int} (h : Seek ins outs ins.length r) : Cm.disjoint ins outs := fun x hx => by
  obtain ⟨i, hi, rfl⟩ := List.getElem_of_mem hx
  have := h.2 i hi hi
  rwa [List.getElem?_eq_getElem hi] at this
theorem Seek.none {ins outs : List Int} {k : Nat} (h : Seek ins outs k []) : Cm.disjoint ins outs := fun x hx hm => by
  obtain ⟨i, hi, rfl⟩ := List.getElem_of_mem hx
  obtain ⟨⟨p, e, hp⟩, h2⟩ := h
  rw [List.append_nil] at e
  rcases Nat.lt_or_ge i k with h | h
  · have := h2 i h hi
    rw [List.getElem?_eq_getElem hi] at this
    exact this hm
  · rw [e] at hm
    have := hp _ hm i h hi
    rw [List.getElem?_eq_getElem hi] at this
    simp at this
theorem Seek.found {ins outs r : List Int} {k : Nat} {y : Int} (h : Seek ins outs k (y :: r)) (hk : k < ins.length) (hy : ins[k]?.getD 0 = y) : ¬ Cm.disjoint ins outs := fun hd => by
  obtain ⟨⟨p, e, hp⟩, h2⟩ := h
  rw [List.getElem?_eq_getElem hk] at hy
  refine hd _ (List.getElem_mem hk) ?_
  rw [show ins[k] = y from hy, e]
  simp

set_option maxRecDepth 100000 in
set_option maxHeartbeats 4000000 in
theorem Make_many (vi vo : Value) (ins outs : List Int) (day : Int) (w : World) (hi : Row .i64 w vi ins) (ho : Row .i64 w vo outs) (hil : ins.length ≤ 1000000) (hol : outs.length ≤ 1000000) (h1 : NumOk ins) (h2 : NumOk outs) (h3 : Cm.dated day) (hno : ¬ Cm.disjoint ins outs) :
    Calls Try.prog 36 #[vi, vo, .int .i64 day] w fun e w' => NoCasc w w' e 100 := by
  obtain ⟨ai, ci, rfl⟩ := hi.shape ins.length rfl
  obtain ⟨ao, co, rfl⟩ := ho.shape outs.length rfl
  obtain ⟨C, hC⟩ : ∃ C, w.heap.size = C := ⟨_, rfl⟩
  have q0 := (Duo.new w 35 (.int .i64 0) (.slice none 0 0)).alloc (.cells #[.int .i64 0] 27)
  have e0 := Boxed.new (w.alloc (.cells #[.int .i64 0, .slice none 0 0] 35)) 27 (.int .i64 0)
  have hb0 := ((Below.refl w.heap.size w).alloc (Nat.le_refl _) (.cells #[.int .i64 0, .slice none 0 0] 35)).alloc (by simp) (.cells #[.int .i64 0] 27)
  have ri := (hi.alloc (.cells #[.int .i64 0, .slice none 0 0] 35)).alloc (.cells #[.int .i64 0] 27)
  have ro := (ho.alloc (.cells #[.int .i64 0, .slice none 0 0] 35)).alloc (.cells #[.int .i64 0] 27)
  rw [hC] at q0
  rw [World.size_alloc, hC] at e0
  obtain ⟨W, hW⟩ : ∃ W, (w.alloc (.cells #[.int .i64 0, .slice none 0 0] 35)).alloc (.cells #[.int .i64 0] 27) = W := ⟨_, rfl⟩
  rw [hW] at q0 e0 hb0 ri ro
  have k1 := numbers_any _ ins W ri hil
  have k2 := numbers_any _ outs W ro hol
  have k3 := dated_any day W
  rw [decide_eq_true h1] at k1
  rw [decide_eq_true h2] at k2
  rw [decide_eq_true h3] at k3
  have HW := Lib.hid hW; have HC := Lib.hid hC
  have RI := Lib.hid ri; have RO := Lib.hid ro
  clear hi ho ri ro hW hC
  have c0 := q0.cell0; have c1 := q0.cell1; have f0 := q0.free 0; have f1 := q0.free 1; have ce := e0.cell; have fe := e0.frozen
  have nEC : ¬ C + 1 = C := by omega
  have qz := ((q0.set0 (.int .i64 0)).set1 (.slice none 0 0)).other (p := ⟨C + 1, 0, none⟩) (by simp) (.int .i64 100)
  have ez := Boxed.set (.int .i64 100) (show Boxed ((W.setCell ⟨C, 0, none⟩ (.int .i64 0)).setCell ⟨C, 1, none⟩ (.slice none 0 0)) (C + 1) 27 (.int .i64 0) from boxed_other (boxed_other e0 nEC 0 _) nEC 1 _)
  have hbz : Below w.heap.size w (((W.setCell ⟨C, 0, none⟩ (.int .i64 0)).setCell ⟨C, 1, none⟩ (.slice none 0 0)).setCell ⟨C + 1, 0, none⟩ (.int .i64 100)) :=
    ((hb0.setCell (by rw [HC.out]; simp) _).setCell (by rw [HC.out]; simp) _).setCell (by rw [HC.out]; simp) _
  have QZ := Lib.hid qz; have EZ := Lib.hid ez; have HBZ := Lib.hid hbz
  have H1 := Lib.hid h1; have H2 := Lib.hid h2; have HNO := Lib.hid hno
  clear qz ez hbz nEC h1 h2 h3 hno
  go_enter Try.func36, Try.ntmps36
  go_wp2_with fail
  rw [HW.out]
  (try rw [HC.out])
  refine wp_scope_straight ?_
  go_wp2_with fail
  refine k1.mono ?_; rintro e w1 ⟨rfl, rfl⟩
  go_wp2_with fail
  refine k2.mono ?_; rintro e w1 ⟨rfl, rfl⟩
  go_wp2_with fail
  refine k3.mono ?_; rintro e w1 ⟨rfl, rfl⟩
  clear k1 k2 k3
  go_wp2_with fail
  go_step3
  go_wp2_with fail
  go_loop [8, 30] (fun o i => ∃ (k : Nat) (r : List Int), i = .int .i64 k ∧ k ≤ ins.length ∧ Row .i64 W o r ∧ r.length ≤ 1000000 ∧ Seek ins outs k r) (fun _ i => ins.length - (intOf i).toNat)
  case atStart => exact ⟨0, outs, rfl, Nat.zero_le _, RO.out, hol, Seek.start _ _⟩
  case round =>
    obtain ⟨k, r, rfl, hk, hr, hrl, hS⟩ := hrel
    have HR := Lib.hid hr; have HS := Lib.hid hS
    have k0 : (0 : Int) ≤ (k : Int) := by omega
    have e1 : IntKind.i64.wrap ((k : Int) + 1) = (k : Int) + 1 := IntWalk.i64_in _ (by omega)
    obtain ⟨ar, cr, rfl⟩ := hr.shape r.length rfl
    clear hr hS
    by_cases hlt : k < ins.length
    · obtain ⟨_, _, e', _, _, _, _, h5⟩ := RI.out
      cases e'
      obtain ⟨b0, o0, rfl, hb00, hc0⟩ := h5 (by rintro rfl; simp at hlt)
      have hck := hc0 k hlt
      obtain ⟨x, hx⟩ : ∃ x, ins[k]?.getD 0 = x := ⟨_, rfl⟩
      rw [hx] at hck
      have HX := Lib.hid hx
      have k1 : (k : Int) < (ins.length : Int) := by omega
      clear hc0 h5 hx
      go_wp2_with fail
      go_loop [8, 37, 44] (fun o _ _ => ∃ r' : List Int, Row .i64 W o r' ∧ r'.length ≤ 1000000 ∧ Seek ins outs k r') (fun o _ _ => lenOf o)
      case atStart => exact ⟨r, HR.out, hrl, HS.out⟩
      case round =>
        obtain ⟨r', hr', hrl', hS'⟩ := hrel
        have HR' := Lib.hid hr'; have HS' := Lib.hid hS'
        obtain ⟨ar', cr', rfl⟩ := hr'.shape r'.length rfl
        clear hr' hS'
        cases r' with
        | nil => exact absurd HS'.out.none HNO.out
        | cons y t =>
          obtain ⟨_, _, e', hlc, hcm, _, _, h5⟩ := HR'.out
          cases e'
          obtain ⟨b1, o1, rfl, hb11, hc1⟩ := h5 (by simp)
          have hcy := hc1 0 (by simp)
          simp only [List.getElem?_cons_zero, Option.getD_some, Nat.add_zero] at hcy
          have hlen : (y :: t).length = t.length + 1 := rfl
          have ht1 : (0 : Int) < ((y :: t).length : Int) := by rw [hlen]; omega
          have e2 : (y :: t).length - 1 = t.length := rfl
          clear hc1 h5
          by_cases hxy : y = x
          · subst hxy
            go_wp2_with fail
            exact bodyPost_ret (casc_ret rfl rfl rfl QZ.out EZ.out) rfl ⟨rfl, by first | exact HBZ.out | (rw [← HC.out]; exact HBZ.out)⟩
          · by_cases hyx : x < y
            · have HN := Lib.hid (HS'.out.next H2.out.1 hlt (by rw [HX.out]; exact hyx))
              go_wp2_with fail
              go_round
              case rel => exact ⟨k + 1, y :: t, by go_num, by omega, HR'.out, hrl', HN.out⟩
              case measure => simp [intOf]; omega
            · have HN := Lib.hid (HS'.out.skip H1.out.1 hlt (by rw [HX.out]; omega))
              have hyx' : ¬ y = x := hxy
              by_cases hc1 : cr' = 1
              · have HT := Lib.hid (HR'.out.cut_all 1 (by rw [hlen]; omega) (by omega))
                go_wp2_with fail
                go_round
                case rel => exact ⟨t, HT.out, by rw [hlen] at hrl'; omega, HN.out⟩
                case measure => simp [lenOf]
              · have HT := Lib.hid (HR'.out.cut 1 (by rw [hlen]; omega) (by rw [hlen] at hlc; omega))
                go_wp2_with fail
                go_round
                case rel => exact ⟨t, HT.out, by rw [hlen] at hrl'; omega, HN.out⟩
                case measure => simp [lenOf]
    · obtain rfl : k = ins.length := by omega
      exact absurd HS.out.done HNO.out
end Go.Proofs.Ytconpdliadhahaa
end

section
namespace Go.Proofs.Ytconpdliadhahaa
open Go.RowKit

/-- The cells of levels, one behind the other. -/
def levelCells (pre : List Lvl) : List Value := pre.flatMap fun x => [.int .i64 x.s.bits, .int .i64 x.s.hashes, .int .i64 x.s.salt, x.vb]
theorem levelCells_snoc (pre : List Lvl) (x : Lvl) : levelCells (pre ++ [x]) = levelCells pre ++ [.int .i64 x.s.bits, .int .i64 x.s.hashes, .int .i64 x.s.salt, x.vb] := by simp [levelCells]
theorem levelCells_get : ∀ (pre : List Lvl) (i : Nat) (h : i < pre.length), (levelCells pre)[i * 4]? = some (.int .i64 pre[i].s.bits) ∧ (levelCells pre)[i * 4 + 1]? = some (.int .i64 pre[i].s.hashes) ∧ (levelCells pre)[i * 4 + 2]? = some (.int .i64 pre[i].s.salt) ∧ (levelCells pre)[i * 4 + 3]? = some pre[i].vb
  | [], _, h => by simp at h
  | x :: pre, 0, _ => by simp [levelCells]
  | x :: pre, i + 1, h => by
    have ih := levelCells_get pre i (by simpa using h)
    have e : levelCells (x :: pre) = [.int .i64 x.s.bits, .int .i64 x.s.hashes, .int .i64 x.s.salt, x.vb] ++ levelCells pre := by simp [levelCells]
    have key : ∀ j, (levelCells (x :: pre))[(i + 1) * 4 + j]? = (levelCells pre)[i * 4 + j]? := fun j => by
      rw [e, List.getElem?_append_right (by simp; omega)]
      congr 1
      simp; omega
    refine ⟨?_, ?_, ?_, ?_⟩
    · have := key 0; simp only [Nat.add_zero] at this; rw [this]; exact ih.1
    · rw [key 1]; exact ih.2.1
    · rw [key 2]; exact ih.2.2.1
    · rw [key 3]; exact ih.2.2.2

/-- A step that turns no cells but those of the blocks Bs, and nothing of what lay in w. -/
structure Sts (w : World) (Bs : Nat → Prop) (W V : World) : Prop where
  os : V.os = W.os
  tape : V.tape = W.tape
  output : V.output = W.output
  size : W.heap.size ≤ V.heap.size
  low : ∀ k, k < w.heap.size → k < W.heap.size → V.heap[k]? = W.heap[k]?
  cells : ∀ k cs t f, W.heap[k]? = some (.cells cs t f) → ¬ Bs k → V.heap[k]? = some (.cells cs t f)
theorem Sts.of_only {w : World} {Bs : Nat → Prop} {W V : World} (h : Only Bs W V) (hb : ∀ k, Bs k → w.heap.size ≤ k) : Sts w Bs W V :=
  ⟨h.os, h.tape, h.output, h.size, fun k hk hl => h.block k hl (fun hk2 => by have := hb k hk2; omega), fun k _ _ _ hc hn => (h.block k (Array.getElem?_eq_some_iff.1 hc).1 hn).trans hc⟩
theorem Sts.of_grown {w : World} {B : Nat} {W V : World} {row : Option Nat} (hg : W.grownBy V row) (hr : ∀ r, row = some r → B ≤ r ∧ ∃ o : Obj, W.heap[r]? = some o ∧ o.isCells = false) (hB : w.heap.size ≤ B) : Sts w (fun _ => False) W V :=
  ⟨hg.os, hg.tape, hg.output, hg.size, fun k hk hl => hg.block k hl (fun e => by have := (hr k e.symm).1; omega), fun k _ _ _ hc _ => cells_kept hc hg (fun r e => (hr r e).2)⟩
theorem Sts.of_below {w W V : World} (h : Below W.heap.size W V) : Sts w (fun _ => False) W V :=
  ⟨h.os, h.tape, h.output, h.size, fun k _ hl => h.block k hl, fun k _ _ _ hc _ => (h.block k (Array.getElem?_eq_some_iff.1 hc).1).trans hc⟩
theorem Sts.mono {w : World} {Bs Cs : Nat → Prop} {W V : World} (h : Sts w Bs W V) (hbc : ∀ k, Bs k → Cs k) : Sts w Cs W V :=
  ⟨h.os, h.tape, h.output, h.size, h.low, fun k cs t f hc hn => h.cells k cs t f hc (fun hb => hn (hbc k hb))⟩
theorem owns_sts {w W V : World} {Bs : Nat → Prop} {base n size : Nat} {e : TypeId} {v : Value} {xs : List Value} (h : W.ownsRow base e size v n xs) (hs : Sts w Bs W V) (hb : ∀ k, Bs k → k < base) : V.ownsRow base e size v n xs := by
  refine ⟨h.1, ?_⟩
  rcases h.2 with h1 | ⟨g, cap, cur, rfl, hg, hh, r⟩
  · exact .inl h1
  · exact .inr ⟨g, cap, cur, rfl, hg, hs.cells g _ _ _ hh (fun hk => by have := hb g hk; omega), r⟩

/-- What Make holds behind the levels pre: the cascade so far, the code, the levels' bytes. -/
structure MkI (w : World) (C E : Nat) (day : Int) (lim : Nat) (pre : List Lvl) (W : World) : Prop where
  lv : ∃ v, Duo W C 35 (.int .i64 day) v ∧ W.ownsRow lim 57 4 v pre.length (levelCells pre)
  e : Boxed W E 27 (.int .i64 0)
  own : ∀ x ∈ pre, Own8 W lim x
  bel : Below w.heap.size w W
  sz : lim ≤ W.heap.size
theorem MkI.sts {w W V : World} {Bs : Nat → Prop} {C E lim : Nat} {day : Int} {pre : List Lvl} (h : MkI w C E day lim pre W) (hs : Sts w Bs W V) (hb : ∀ k, Bs k → k < lim) (hC : ¬ Bs C) (hE : ¬ Bs E) : MkI w C E day lim pre V := by
  obtain ⟨v, hd, ho⟩ := h.lv
  refine ⟨⟨v, hs.cells C _ _ _ hd hC, owns_sts ho hs hb⟩, hs.cells E _ _ _ h.e hE, fun x hx => ⟨owns_sts (h.own x hx).1 hs hb, (h.own x hx).2⟩, ?_, Nat.le_trans h.sz hs.size⟩
  exact ⟨hs.os.trans h.bel.os, hs.tape.trans h.bel.tape, hs.output.trans h.bel.output, Nat.le_trans h.bel.size hs.size, fun k hk => (hs.low k hk (Nat.lt_of_lt_of_le hk h.bel.size)).trans (h.bel.block k hk)⟩
/-- What Make holds where there is none: the answer. -/
structure MkX (w : World) (C E : Nat) (W : World) : Prop where
  c : Duo W C 35 (.int .i64 0) (.slice none 0 0)
  e : Boxed W E 27 (.int .i64 2)
  bel : Below w.heap.size w W
theorem MkX.sts {w W V : World} {Bs : Nat → Prop} {C E : Nat} (h : MkX w C E W) (hs : Sts w Bs W V) (hC : ¬ Bs C) (hE : ¬ Bs E) : MkX w C E V :=
  ⟨hs.cells C _ _ _ h.c hC, hs.cells E _ _ _ h.e hE, ⟨hs.os.trans h.bel.os, hs.tape.trans h.bel.tape, hs.output.trans h.bel.output, Nat.le_trans h.bel.size hs.size, fun k hk => (hs.low k hk (Nat.lt_of_lt_of_le hk h.bel.size)).trans (h.bel.block k hk)⟩⟩
/-- The levels as a slice of sieves. -/
theorem svs_of {W : World} {lim : Nat} {v : Value} {pre : List Lvl} (ho : W.ownsRow lim 57 4 v pre.length (levelCells pre)) (h8 : ∀ x ∈ pre, Own8 W lim x) : Svs W v (pre.map (·.s)) := by
  have hl : (pre.map (·.s)).length = pre.length := List.length_map ..
  rcases ho.2 with ⟨rfl, h0⟩ | ⟨g, cap, cur, rfl, hg, hh, hnc, hcm, hcs, ht⟩
  · obtain rfl : pre = [] := List.length_eq_zero_iff.1 h0
    exact Svs.nil _
  · refine ⟨some ⟨g, 0, none⟩, cap, by rw [hl], by rw [hl]; exact hnc, hcm, (by simp), fun _ => ⟨g, 0, rfl, (Array.getElem?_eq_some_iff.1 hh).1, fun i hi => ?_⟩⟩
    rw [hl] at hi
    have hx : (pre.map (·.s))[i]?.getD Cm.nil = pre[i].s := by rw [List.getElem?_map, List.getElem?_eq_getElem hi]; rfl
    have cell : ∀ (k : Nat) (u : Value), (levelCells pre)[k]? = some u → W.cell? ⟨g, k, none⟩ = some u := fun k u hu => by
      have := ho.cells (g := g) rfl k u hu
      rw [addr_add] at this
      simpa using this
    obtain ⟨k0, k1, k2, k3⟩ := levelCells_get pre i hi
    obtain ⟨o8, by8⟩ := h8 _ (List.getElem_mem hi)
    rw [hx]
    simp only [Nat.zero_add]
    exact ⟨pre[i].vb, owns_row o8 by8, cell _ _ k0, cell _ _ k1, cell _ _ k2, cell _ _ k3⟩
/-- A slice of sieves whose memory, and that of its bytes, lies at n or beyond. -/
def PastS (n : Nat) (w : World) (v : Value) (ls : List Sm.Sv) : Prop := ∀ b o l c, v = .slice (some ⟨b, o, none⟩) l c → ∀ i, i < ls.length → n ≤ b ∧ ∀ vb, w.cell? ⟨b, o + i * 4 + 3, none⟩ = some vb → ∀ b' o' l' c', vb = .slice (some ⟨b', o', none⟩) l' c' → n ≤ b'
theorem pasts_of {W : World} {lim n : Nat} {v : Value} {pre : List Lvl} (ho : W.ownsRow lim 57 4 v pre.length (levelCells pre)) (h8 : ∀ x ∈ pre, Own8 W lim x) (hn : n ≤ lim) : PastS n W v (pre.map (·.s)) := by
  intro b o l c e i hi
  rw [List.length_map] at hi
  rcases ho.2 with ⟨h1, _⟩ | ⟨g, cap, cur, h1, hg, hh, hnc, hcm, hcs, ht⟩
  · rw [h1] at e; cases e
  · rw [h1] at e; cases e
    refine ⟨Nat.le_trans hn hg, fun vb hvb b' o' l' c' e' => ?_⟩
    have hc := ho.cells (g := b) (by rw [h1]; rfl) (i * 4 + 3) pre[i].vb (levelCells_get pre i hi).2.2.2
    rw [addr_add, Nat.zero_add] at hc
    rw [Nat.zero_add, hc] at hvb
    cases hvb
    obtain ⟨o8, _⟩ := h8 _ (List.getElem_mem hi)
    rcases o8.2 with ⟨h2, _⟩ | ⟨g', cap', cur', h2, hg', _⟩
    · rw [h2] at e'; cases e'
    · rw [h2] at e'; cases e'
      exact Nat.le_trans hn hg'
theorem Svs.aside {w : World} {v : Value} {ls : List Sm.Sv} {n : Nat} (h : Svs w v ls) (hp : PastS n w v ls) {p : Addr} (hlt : p.block < n) (u : Value) : Svs (w.setCell p u) v ls ∧ PastS n (w.setCell p u) v ls := by
  obtain ⟨a, cap, h1, h2, h3, h0, h5⟩ := h
  have far : ∀ {b o : Nat}, n ≤ b → (w.setCell p u).cell? ⟨b, o, none⟩ = w.cell? ⟨b, o, none⟩ := fun {b o} hb => World.cell?_setCell_other w p ⟨b, o, none⟩ u (fun e => by subst e; exact absurd hb (Nat.not_le.2 hlt))
  refine ⟨⟨a, cap, h1, h2, h3, h0, fun hne => ?_⟩, fun b o l c e i hi => ?_⟩
  · obtain ⟨b, off, e, hb, hc⟩ := h5 hne
    refine ⟨b, off, e, by simpa using hb, fun i hi => ?_⟩
    obtain ⟨vb, r, k0, k1, k2, k3⟩ := hc i hi
    obtain ⟨hnb, hvb⟩ := hp b off _ _ (by rw [h1, e]) i hi
    exact ⟨vb, r.aside (fun b' o' l' c' e' _ => by have := hvb vb k3 b' o' l' c' e'; omega) u, (far hnb).trans k0, (far hnb).trans k1, (far hnb).trans k2, (far hnb).trans k3⟩
  · obtain ⟨hnb, hvb⟩ := hp b o l c e i hi
    exact ⟨hnb, fun vb hv => hvb vb ((far hnb).symm.trans hv)⟩
theorem setCell_self {X : World} {g o : Nat} {cs : Array Value} {t : TypeId} {f : Nat × Nat} {v : Value} (h : X.heap[g]? = some (.cells cs t f)) (hv : cs[o]? = some v) : X.setCell ⟨g, o, none⟩ v = X := by
  rw [Sort.setCell_eq]
  refine Sort.mapBlock_id X g _ fun c e fr hc => ?_
  rw [h] at hc
  cases hc
  obtain ⟨hlt, rfl⟩ := Array.getElem?_eq_some_iff.1 hv
  show cs.setIfInBounds o cs[o] = cs
  refine Array.ext (by simp) fun i h1 h2 => ?_
  rw [Array.getElem_setIfInBounds]
  split
  · rename_i e; subst e; rfl
  · rfl
theorem info_sieve : (Try.prog.info? 57).map (fun i => (i.zero, i.size, i.bytes)) = some (some (.agg #[.int .i64 0, .int .i64 0, .int .i64 0, .slice none 0 0]), 4, 48) := by kernel_rfl
end Go.Proofs.Ytconpdliadhahaa
end

section
namespace Go.Proofs.Ytconpdliadhahaa
open Go.RowKit

theorem Row.low {k : IntKind} {w : World} {v : Value} {l : List Int} (h : Row k w v l) : ∀ b o n c, v = .slice (some ⟨b, o, none⟩) n c → 0 < n → b < w.heap.size := fun b o n c e hn => by
  obtain ⟨a, cap, e2, _, _, _, _, hc⟩ := h
  rw [e] at e2
  cases e2
  obtain ⟨b2, o2, e3, hlt, _⟩ := hc (by rintro rfl; simp at hn)
  cases e3
  exact hlt
theorem grown_typed {X Y : World} {base n size k : Nat} {e t : TypeId} {v : Value} {xs : List Value} {cs : Array Value} {f : Nat × Nat} (ho : X.ownsRow base e size v n xs) (hg : X.grownBy Y v.ownBlock) (hk : X.heap[k]? = some (.cells cs t f)) (hne : t ≠ e) : Y.heap[k]? = some (.cells cs t f) := by
  refine (hg.block k (Array.getElem?_eq_some_iff.1 hk).1 ?_).trans hk
  intro ee
  rcases ho.2 with ⟨rfl, _⟩ | ⟨g, cap, cur, rfl, _, hh, _⟩
  · simp [Value.ownBlock] at ee
  · simp [Value.ownBlock] at ee
    subst ee
    rw [hh] at hk
    injection hk with hk
    injection hk with _ h2
    exact hne h2.symm
theorem own_cells {X : World} {base n size g : Nat} {e : TypeId} {v : Value} {xs : List Value} (ho : X.ownsRow base e size v n xs) (hg : v.ownBlock = some g) : base ≤ g ∧ ∃ cs, X.heap[g]? = some (.cells cs e (0, 0)) := by
  rcases ho.2 with ⟨rfl, _⟩ | ⟨g', cap, cur, rfl, hb, hh, _⟩
  · simp [Value.ownBlock] at hg
  · simp [Value.ownBlock] at hg
    subst hg
    exact ⟨hb, _, hh⟩
theorem cells_new4 (w : World) (cs : List Value) (t : TypeId) : ∀ j u, cs[j]? = some u → (w.alloc (.cells cs.toArray t)).cell? ((⟨w.heap.size, 0, none⟩ : Addr).add j) = some u := fun j u h => by
  rw [addr_add, Nat.zero_add, cell_alloc, List.getElem?_toArray, h]

theorem LvK.put {base B : Nat} {xs : List Lvl} {A X : World} {l : Nat} {o : Obj} (o' : Obj) (h : LvK base xs A X) (hB : base ≤ B) (hl : B ≤ l) (ho : X.heap[l]? = some o) (hc : o.isCells = false) : LvK base xs A (X.putObj l o') := by
  refine ⟨h.1, fun x hx => ?_⟩
  obtain ⟨k1, k2⟩ := h.2 x hx
  refine ⟨by simpa [World.putObj] using k1, fun k hk hp => ?_⟩
  have hkl : k ≠ l := by
    rintro rfl
    have e := k2 k hk hp
    rw [ho] at e
    have cells : (∃ cs t f, A.heap[k]? = some (.cells cs t f)) → False := by
      rintro ⟨cs, t, f, h⟩
      rw [h] at e
      cases e
      cases hc
    rcases hp with hp | ⟨_, hp⟩ | ⟨cs, t, f, hp, _⟩
    · omega
    · exact cells hp
    · exact cells ⟨cs, t, f, hp⟩
  rw [World.putObj_heap_other hkl]
  exact k2 k hk hp

/-- The step. -/
theorem mk_step {w W0 W V2 w5 : World} {C E lim base L l : Nat} {day : Int} {pre : List Lvl} {x : Lvl} {v v' : Value} {T : Obj}
    (hd2 : Duo V2 C 35 (.int .i64 day) v) (ho2 : V2.ownsRow lim 57 4 v pre.length (levelCells pre)) (he2 : Boxed V2 E 27 (.int .i64 0)) (h8 : ∀ y ∈ pre, Own8 V2 lim y) (h8x : Own8 V2 lim x) (hb2 : Below w.heap.size w V2)
    (hgrow : (V2.alloc T).grownBy w5 v.ownBlock) (own5 : w5.ownsRow lim 57 4 v' (pre.length + 1) (levelCells pre ++ [.int .i64 x.s.bits, .int .i64 x.s.hashes, .int .i64 x.s.salt, x.vb]))
    (hbase : base = w.heap.size) (hC : base ≤ C) (hCl : C < lim) (hL : lim ≤ L) (hlL : L ≤ l) (hWsz : W.heap.size ≤ V2.heap.size) (hWV : ∀ k, k < W.heap.size → k ≠ l → V2.heap[k]? = W.heap[k]?) (hloop : ∃ r, W.heap[l]? = some (.loop r))
    (hW0 : W0.heap.size ≤ x.G) (hl0 : lim ≤ W0.heap.size) (hlV : lim ≤ V2.heap.size) (hv0 : ∀ g, v.ownBlock = some g → g < W0.heap.size) (h16 : pre.length < 16) :
    KeepsFrom L V2 (w5.setCell ⟨C, 1, none⟩ v') ∧ LvK base (pre ++ [x]) W (w5.setCell ⟨C, 1, none⟩ v') ∧ MkI w C E day lim (pre ++ [x]) (w5.setCell ⟨C, 1, none⟩ v') := by
  have o2a := ho2.alloc T
  have alloc_at : ∀ {k : Nat} {o : Obj}, V2.heap[k]? = some o → (V2.alloc T).heap[k]? = some o := fun h => (Below.heap_alloc V2 T _ (Array.getElem?_eq_some_iff.1 h).1).trans h
  have typed : ∀ {k : Nat} {cs : Array Value} {t : TypeId} {f : Nat × Nat}, V2.heap[k]? = some (.cells cs t f) → t ≠ 57 → w5.heap[k]? = some (.cells cs t f) := fun h hne => grown_typed o2a hgrow (alloc_at h) hne
  have d5 : Duo w5 C 35 (.int .i64 day) v := typed hd2 (by decide)
  have e5 : Boxed w5 E 27 (.int .i64 0) := typed he2 (by decide)
  have hCE : E ≠ C := by
    rintro rfl
    have this := (show V2.heap[E]? = _ from hd2).symm.trans (show V2.heap[E]? = _ from he2)
    injection this with h1
    injection h1 with _ h2
    exact absurd h2 (by decide)
  have hsz5 : V2.heap.size ≤ w5.heap.size := Nat.le_trans (by simp) hgrow.size
  have hss : (w5.setCell ⟨C, 1, none⟩ v').heap.size = w5.heap.size := by simp
  have far : ∀ k, k ≠ C → (w5.setCell ⟨C, 1, none⟩ v').heap[k]? = w5.heap[k]? := fun k hk => Below.heap_setCell w5 ⟨C, 1, none⟩ v' k hk
  have kept : ∀ k, k < V2.heap.size → v.ownBlock ≠ some k → w5.heap[k]? = V2.heap[k]? := fun k hk hne =>
    (hgrow.block k (Nat.lt_of_lt_of_le hk (by simp)) (fun e => hne e.symm)).trans (Below.heap_alloc V2 T k hk)
  have own8 : ∀ {y : Lvl}, Own8 V2 lim y → Own8 (w5.setCell ⟨C, 1, none⟩ v') lim y := fun {y} h => by
    refine ⟨⟨h.1.1, ?_⟩, h.2⟩
    rcases h.1.2 with h1 | ⟨g, cap, cur, hv, hg, hh, r⟩
    · exact .inl h1
    · exact .inr ⟨g, cap, cur, hv, hg, (far g (by omega)).trans (typed hh (by decide)), r⟩
  have hblow : Below w.heap.size w w5 := by
    refine ⟨hgrow.os.trans hb2.os, hgrow.tape.trans hb2.tape, hgrow.output.trans hb2.output, Nat.le_trans hb2.size hsz5, fun k hk => ?_⟩
    refine (kept k (Nat.lt_of_lt_of_le hk hb2.size) (fun e => ?_)).trans (hb2.block k hk)
    have := (own_cells ho2 e).1
    omega
  refine ⟨⟨by rw [hss]; exact hsz5, fun k o hk ho hnc => ?_⟩, ⟨by simp; omega, fun y hy => ?_⟩, ⟨⟨v', d5.set1 v', ?_⟩, boxed_other e5 hCE 1 _, fun y hy => ?_, hblow.setCell (p := ⟨C, 1, none⟩) (show w.heap.size ≤ C by omega) _, by rw [hss]; omega⟩⟩
  · rw [far k (by omega), kept k (Array.getElem?_eq_some_iff.1 ho).1 (fun e => ?_)]
    · exact ho
    · obtain ⟨_, cs, hcs⟩ := own_cells ho2 e
      rw [hcs] at ho
      cases ho
      cases hnc
  · rw [List.getLast?_concat] at hy
    cases hy
    refine ⟨Nat.le_trans hWsz (by rw [hss]; exact hsz5), fun k hk hp => ?_⟩
    have notl : (∃ cs t f, W.heap[k]? = some (.cells cs t f)) → k ≠ l := by
      rintro ⟨cs, t, f, h⟩ rfl
      obtain ⟨r, hr⟩ := hloop
      rw [h] at hr
      cases hr
    rcases hp with hp | ⟨rfl, hcs⟩ | ⟨cs, t, f, hcs, ht⟩
    · have hkl : k ≠ l := by omega
      rw [far k (by omega), kept k (Nat.lt_of_lt_of_le hk hWsz) (fun e => by have := (own_cells ho2 e).1; omega), hWV k hk hkl]
    · rw [far _ (by omega), kept _ (Nat.lt_of_lt_of_le hk hWsz) (fun e => by have := hv0 _ e; omega), hWV _ hk (notl hcs)]
    · have h2 := (hWV k hk (notl ⟨cs, t, f, hcs⟩)).trans hcs
      have hkC : k ≠ C := by
        rintro rfl
        rw [show V2.heap[k]? = _ from hd2] at h2
        injection h2 with h2
        injection h2 with _ h3
        rcases ht with rfl | rfl | rfl <;> exact absurd h3 (by decide)
      rw [far k hkC, typed h2 (by rcases ht with rfl | rfl | rfl <;> decide), hcs]
  · rw [levelCells_snoc, List.length_append]
    refine ownsRow_setCell_other own5 (a := ⟨C, 1, none⟩) (fun e => ?_) _
    obtain ⟨h1, _⟩ := own_cells own5 e
    have : lim ≤ C := h1
    omega
  · rcases List.mem_append.1 hy with h | h
    · exact own8 (h8 y h)
    · rw [List.mem_singleton.1 h]; exact own8 h8x
end Go.Proofs.Ytconpdliadhahaa
end

section
namespace Go.Proofs.Ytconpdliadhahaa
open Go.RowKit Go.Shelf
attribute [local go_sem] Oper.semAt_some

/-- What Make hands back. -/
def Maked (day : Int) (o : Option (List Sm.Sv)) (w w' : World) (e : Ending) : Prop :=
  (∃ ls a c, o = some ls ∧ e = .returned (.tuple #[.agg #[.int .i64 day, .slice a ls.length c], .int .i64 0]) ∧ Svs w' (.slice a ls.length c) ls ∧ PastS w.heap.size w' (.slice a ls.length c) ls ∧ Below w.heap.size w w') ∨ (o = none ∧ NoCasc w w' e 2)

set_option maxRecDepth 100000 in
set_option maxHeartbeats 4000000 in
theorem Make_go (vi vo : Value) (ins outs : List Int) (day : Int) (w : World) (hi : Row .i64 w vi ins) (ho : Row .i64 w vo outs) (hil : ins.length ≤ 1000000) (hol : outs.length ≤ 1000000) (h1 : NumOk ins) (h2 : NumOk outs) (h3 : Cm.dated day) (hdj : Cm.disjoint ins outs) :
    Calls Try.prog 36 #[vi, vo, .int .i64 day] w fun e w' => Maked day (Cm.build day 16 0 ins outs) w w' e := by
  obtain ⟨ai, ci, rfl⟩ := hi.shape ins.length rfl
  obtain ⟨ao, co, rfl⟩ := ho.shape outs.length rfl
  obtain ⟨C, hC⟩ : ∃ C, w.heap.size = C := ⟨_, rfl⟩
  have q0 := (Duo.new w 35 (.int .i64 0) (.slice none 0 0)).alloc (.cells #[.int .i64 0] 27)
  have e0 := Boxed.new (w.alloc (.cells #[.int .i64 0, .slice none 0 0] 35)) 27 (.int .i64 0)
  have hb0 := ((Below.refl w.heap.size w).alloc (Nat.le_refl _) (.cells #[.int .i64 0, .slice none 0 0] 35)).alloc (by simp) (.cells #[.int .i64 0] 27)
  have ri := (hi.alloc (.cells #[.int .i64 0, .slice none 0 0] 35)).alloc (.cells #[.int .i64 0] 27)
  have ro := (ho.alloc (.cells #[.int .i64 0, .slice none 0 0] 35)).alloc (.cells #[.int .i64 0] 27)
  rw [hC] at q0
  rw [World.size_alloc, hC] at e0
  obtain ⟨W, hW⟩ : ∃ W, (w.alloc (.cells #[.int .i64 0, .slice none 0 0] 35)).alloc (.cells #[.int .i64 0] 27) = W := ⟨_, rfl⟩
  rw [hW] at q0 e0 hb0 ri ro
  have k1 := numbers_any _ ins W ri hil
  have k2 := numbers_any _ outs W ro hol
  have k3 := dated_any day W
  rw [decide_eq_true h1] at k1
  rw [decide_eq_true h2] at k2
  rw [decide_eq_true h3] at k3
  have HW := Lib.hid hW; have HC := Lib.hid hC
  have RI := Lib.hid ri; have RO := Lib.hid ro
  have HI0 := Lib.hid hi; have HO0 := Lib.hid ho
  clear hi ho ri ro hW hC
  have c0 := q0.cell0; have c1 := q0.cell1; have f0 := q0.free 0; have f1 := q0.free 1; have ce := e0.cell; have fe := e0.frozen
  have hdd := h3
  have H1 := Lib.hid h1; have H2 := Lib.hid h2; have HDj := Lib.hid hdj; have HDd := Lib.hid hdd
  clear h1 h2 h3 hdj hdd
  obtain ⟨i0, hinfo, hz0, hz1, hz2⟩ := info_parts info_sieve
  refine (callsIn_wide (n := 6)).1 ?_
  refine callsIn_of_wp_marks Try.func36 rfl trivial ?_ rfl
  simp only [Try.ntmps36, List.size_toArray, List.length_cons, List.length_nil, Nat.reduceAdd, Nat.reduceSub, Array.replicate_succ, Array.replicate_zero, List.push_toArray, List.append_toArray, List.nil_append, List.cons_append]
  refine wpIn_wide.2 ?_
  go_wp2_with fail
  rw [HW.out]
  (try rw [HC.out])
  refine wp_scope_straight ?_
  go_wp2_with fail
  refine k1.mono ?_; rintro e w1 ⟨rfl, rfl⟩
  go_wp2_with fail
  refine k2.mono ?_; rintro e w1 ⟨rfl, rfl⟩
  go_wp2_with fail
  refine k3.mono ?_; rintro e w1 ⟨rfl, rfl⟩
  clear k1 k2 k3
  go_wp2_with fail
  go_step3
  go_upto_block 0 with fail
  go_cut [] from 8 (fun wx => W = wx)
  case first =>
    go_wp2_with fail
    go_loop [8, 30] (fun o i => ∃ (k : Nat) (r : List Int), i = .int .i64 k ∧ k ≤ ins.length ∧ Row .i64 W o r ∧ r.length ≤ 1000000 ∧ Seek ins outs k r) (fun _ i => ins.length - (intOf i).toNat)
    case atStart => exact ⟨0, outs, rfl, Nat.zero_le _, RO.out, hol, Seek.start _ _⟩
    case round =>
      obtain ⟨k, r, rfl, hk, hr, hrl, hS⟩ := hrel
      have HR := Lib.hid hr; have HS := Lib.hid hS
      have k0 : (0 : Int) ≤ (k : Int) := by omega
      have e1 : IntKind.i64.wrap ((k : Int) + 1) = (k : Int) + 1 := IntWalk.i64_in _ (by omega)
      obtain ⟨ar, cr, rfl⟩ := hr.shape r.length rfl
      clear hr hS
      by_cases hlt : k < ins.length
      · obtain ⟨_, _, e', _, _, _, _, h5⟩ := RI.out
        cases e'
        obtain ⟨b0, o0, rfl, hb00, hc0⟩ := h5 (by rintro rfl; simp at hlt)
        have hck := hc0 k hlt
        obtain ⟨x, hx⟩ : ∃ x, ins[k]?.getD 0 = x := ⟨_, rfl⟩
        rw [hx] at hck
        have HX := Lib.hid hx
        have k1 : (k : Int) < (ins.length : Int) := by omega
        clear hc0 h5 hx
        go_wp2_with fail
        go_loop [8, 37, 44] (fun o _ _ => ∃ r' : List Int, Row .i64 W o r' ∧ r'.length ≤ 1000000 ∧ Seek ins outs k r') (fun o _ _ => lenOf o)
        case atStart => exact ⟨r, HR.out, hrl, HS.out⟩
        case round =>
          obtain ⟨r', hr', hrl', hS'⟩ := hrel
          have HR' := Lib.hid hr'; have HS' := Lib.hid hS'
          obtain ⟨ar', cr', rfl⟩ := hr'.shape r'.length rfl
          clear hr' hS'
          cases r' with
          | nil =>
            go_wp2_with fail
            go_meet
            exact rfl
          | cons y t =>
            obtain ⟨_, _, e', hlc, hcm, _, _, h5⟩ := HR'.out
            cases e'
            obtain ⟨b1, o1, rfl, hb11, hc1⟩ := h5 (by simp)
            have hcy := hc1 0 (by simp)
            simp only [List.getElem?_cons_zero, Option.getD_some, Nat.add_zero] at hcy
            have hlen : (y :: t).length = t.length + 1 := rfl
            have ht1 : (0 : Int) < ((y :: t).length : Int) := by rw [hlen]; omega
            have e2 : (y :: t).length - 1 = t.length := rfl
            clear hc1 h5
            by_cases hxy : y = x
            · exact absurd HDj.out (HS'.out.found hlt (by rw [HX.out, hxy]))
            · by_cases hyx : x < y
              · have HN := Lib.hid (HS'.out.next H2.out.1 hlt (by rw [HX.out]; exact hyx))
                go_wp2_with fail
                go_round
                case rel => exact ⟨k + 1, y :: t, by go_num, by omega, HR'.out, hrl', HN.out⟩
                case measure => simp [intOf]; omega
              · have HN := Lib.hid (HS'.out.skip H1.out.1 hlt (by rw [HX.out]; omega))
                have hyx' : ¬ y = x := hxy
                by_cases hc1 : cr' = 1
                · have HT := Lib.hid (HR'.out.cut_all 1 (by rw [hlen]; omega) (by omega))
                  go_wp2_with fail
                  go_round
                  case rel => exact ⟨t, HT.out, by rw [hlen] at hrl'; omega, HN.out⟩
                  case measure => simp [lenOf]
                · have HT := Lib.hid (HR'.out.cut 1 (by rw [hlen]; omega) (by rw [hlen] at hlc; omega))
                  go_wp2_with fail
                  go_round
                  case rel => exact ⟨t, HT.out, by rw [hlen] at hrl'; omega, HN.out⟩
                  case measure => simp [lenOf]
      · obtain rfl : k = ins.length := by omega
        (go_wp2_with fail; go_meet; exact rfl)
  case rest =>
    obtain rfl := hcut
    have hrow : ∀ {v : Value} {l : List Int}, Row .i64 w v l → Row .i64 (W.setCell ⟨C, 0, none⟩ (.int .i64 day)) v l := fun {v l} h => (h.below ⟨hb0.os, hb0.tape, hb0.output, hb0.size, hb0.block⟩).aside (h.off (g := C) (by rw [HC.out]; exact Nat.le_refl _)) _
    have ri1 := hrow HI0.out; have ro1 := hrow HO0.out
    have q1 := q0.set0 (.int .i64 day)
    have e1 := boxed_other e0 (show C + 1 ≠ C by omega) 0 (.int .i64 day)
    have hb1 := hb0.setCell (p := ⟨C, 0, none⟩) (show w.heap.size ≤ C by rw [HC.out]; exact Nat.le_refl _) (.int .i64 day)
    have hs1 : (W.setCell ⟨C, 0, none⟩ (.int .i64 day)).heap.size = W.heap.size := by simp
    have hlE := e0.lt
    go_wp2_with fail
    refine (levels_any ai ao ins.length outs.length ci co day _).mono ?_
    rintro e w1 ⟨rfl, hw1⟩
    generalize W.setCell ⟨C, 0, none⟩ (.int .i64 day) = V at *
    obtain ⟨P, hP⟩ : ∃ P, V.heap.size = P := ⟨_, rfl⟩
    have p1 := ((Boxed.new V 22 (.slice ai ins.length ci)).alloc (.cells #[.slice ao outs.length co] 22)).alloc (.cells #[.int .i64 day] 3)
    have p2 := (Boxed.new (V.alloc (.cells #[.slice ai ins.length ci] 22)) 22 (.slice ao outs.length co)).alloc (.cells #[.int .i64 day] 3)
    have p3 := Boxed.new ((V.alloc (.cells #[.slice ai ins.length ci] 22)).alloc (.cells #[.slice ao outs.length co] 22)) 3 (.int .i64 day)
    have hVw : Below V.heap.size V w1 := by rw [← hw1]; exact (((Below.refl _ _).alloc (Nat.le_refl _) _).alloc (by simp) _).alloc (by simp; omega) _
    have hsz1 : w1.heap.size = P + 3 := by rw [← hw1]; simp [hP]
    simp only [World.size_alloc, hP] at p1 p2 p3
    rw [hw1] at p1 p2 p3
    rw [hP]
    have q2 := q1.stp hVw; have e2 := boxed_stp e1 hVw; have hb2 := hb1.trans (hVw.mono hb1.size)
    have ri2 := ri1.below hVw; have ro2 := ro1.below hVw
    have hNi : NumL ins := ⟨H1.out.2, H1.out.1.1⟩
    have hNo : NumL outs := ⟨H2.out.2, H2.out.1.1⟩
    have hCP : C + 1 < P := by omega
    have hIt : LvIt w1 P (P + 2) (P + 1) day w.heap.size (.slice ai ins.length ci) (.slice ao outs.length co) ins outs :=
      ⟨p1, p3, p2, ri2, ro2, fun b o n c e hn => .inl (HI0.out.low b o n c e hn), fun b o n c e hn => .inl (HO0.out.low b o n c e hn)⟩
    have hwC : w.heap.size = C := HC.out
    have hseq : SeqTold Fence.wide 5 Try.prog 63 #[.pointer (some ⟨P, 0, none⟩), .pointer (some ⟨P + 2, 0, none⟩), .pointer (some ⟨P + 1, 0, none⟩)] lvEnc (TwoB P (P + 1)) (LvR day ins outs w1.heap.size) (LvK w.heap.size)
        (fun xs => Cm.build day 16 0 ins outs = some (xs.map (·.s))) (fun _ => True) w1 := fun l J Jx X hX hJ hJx hY h0 =>
      levels1_in 5 (by omega) l P (P + 2) (P + 1) w.heap.size w1.heap.size day ins outs HDd.out J Jx hJ hY X _ _ (by omega) (by omega) (by omega) (hIt.stp hX) hNi hNo hX.size h0
    have hTwo : ∀ k, TwoB P (P + 1) k → w.heap.size ≤ k ∧ k < w1.heap.size ∧ k ≠ C ∧ k ≠ C + 1 := by
      intro k hk
      rcases hk with rfl | rfl <;> refine ⟨?_, ?_, ?_, ?_⟩ <;> omega
    have I0 : MkI w C (C + 1) day w1.heap.size [] w1 := ⟨⟨_, q2, World.ownsRow_nil _ _ _ _⟩, e2, by simp, hb2, Nat.le_refl _⟩
    have Hsq := Lib.hid hseq; have HI1 := Lib.hid I0; have HTw := Lib.hid hTwo
    clear hseq I0 hTwo hIt p1 p2 p3 ri1 ro1 ri2 ro2 q0 q1 e0 e1 hb0 hb1 hVw hw1 hrow hs1 c0 c1 f0 f1 ce fe
    go_wp2_with fail
    refine (wpIn_wide (n := 6)).1 ?_
    refine wpIn_told rfl (by omega) (gf := 63) (lb := #[.pointer (some ⟨P, 0, none⟩), .pointer (some ⟨P + 2, 0, none⟩), .pointer (some ⟨P + 1, 0, none⟩)]) rfl trivial (enters_of Try.func63 (by kernel_rfl) rfl)
      Hsq.out ?kb (Below.refl _ _) (fun _ => rfl) (MkI w C (C + 1) day w1.heap.size) (fun c _ X => c = .ret ∧ Cm.build day 16 0 ins outs = none ∧ MkX w C (C + 1) X) (fun k hk => (HTw.out k hk).2.1) ?hi ?hix ?hib ?hixb HI1.out ?round ?done ?stop
    case kb => exact fun xs A X l o o' h hl ho hc _ => h.put o' hb2.size hl ho hc
    case hi => exact fun pre A X row h hg hr => h.sts (Sts.of_grown hg hr hb2.size) (fun _ f => f.elim) (fun f => f) (fun f => f)
    case hix => exact fun c pre A X row h hg hr => ⟨h.1, h.2.1, h.2.2.sts (Sts.of_grown hg hr hb2.size) (fun f => f) (fun f => f)⟩
    case hib => exact fun pre A X h ho => h.sts (Sts.of_only ho (fun k hk => (HTw.out k hk).1)) (fun k hk => (HTw.out k hk).2.1) (fun hk => (HTw.out C hk).2.2.1 rfl) (fun hk => (HTw.out (C + 1) hk).2.2.2 rfl)
    case hixb => exact fun c pre A X h ho => ⟨h.1, h.2.1, h.2.2.sts (Sts.of_only ho (fun k hk => (HTw.out k hk).1)) (fun hk => (HTw.out C hk).2.2.1 rfl) (fun hk => (HTw.out (C + 1) hk).2.2.2 rfl)⟩
    case round =>
      rintro l pre ⟨i, s, vb, G⟩ W0 X hl hI hbw ⟨hi, h16, h8x, ⟨hG1, hG2⟩, hnone⟩ ⟨r, hr⟩
      dsimp only at hi hG1 hG2
      subst hi
      obtain ⟨v, hd0, ho0⟩ := hI.lv
      have hv0 : ∀ g, v.ownBlock = some g → g < W0.heap.size := fun g e => by obtain ⟨_, cs, h⟩ := own_cells ho0 e; exact (Array.getElem?_eq_some_iff.1 h).1
      have hl0 := hI.sz
      have hst : Sts w (fun _ => False) W0 X := Sts.of_below hbw
      have hoX := owns_sts ho0 hst (fun _ f => f.elim)
      have hdX : Duo X C 35 (.int .i64 day) v := hst.cells _ _ _ _ hd0 (fun f => f)
      have heX : Boxed X (C + 1) 27 (.int .i64 0) := hst.cells _ _ _ _ hI.e (fun f => f)
      have h8 : ∀ y ∈ pre, Own8 X w1.heap.size y := fun y hy => ⟨owns_sts (hI.own y hy).1 hst (fun _ f => f.elim), (hI.own y hy).2⟩
      have hbX := (hI.sts hst (fun _ f => f.elim) (fun f => f) (fun f => f)).bel
      obtain ⟨av, nv, cv, rfl⟩ := owns_slice ho0
      obtain ⟨ab, nb, cb, rfl⟩ := owns_slice h8x.1
      dsimp only
      have hlX : l < X.heap.size := (Array.getElem?_eq_some_iff.1 hr).1
      obtain ⟨o5, ho5⟩ : ∃ o5 : Obj, .cells #[.int .i64 s.bits, .int .i64 s.hashes, .int .i64 s.salt, .slice ab nb cb, .int .i64 0] 73 (0, 0) = o5 := ⟨_, rfl⟩
      -- the world behind the assignment and the round's beginning
      have step : ∀ r', (∀ k, k < X.heap.size → k ≠ l → ((X.alloc o5).putObj l (.loop r')).heap[k]? = X.heap[k]?) ∧ ((X.alloc o5).putObj l (.loop r')).heap[X.heap.size]? = some o5 ∧ X.heap.size < ((X.alloc o5).putObj l (.loop r')).heap.size ∧ Sts w (fun _ => False) X ((X.alloc o5).putObj l (.loop r')) := by
        intro r'
        have hra : (X.alloc o5).heap[l]? = some (.loop r) := (Below.heap_alloc X o5 l hlX).trans hr
        have hg := Sts.of_grown (w := w) (B := w1.heap.size) (grownBy_putObj' (X.alloc o5) l (.loop r')) (fun q e => by cases e; exact ⟨hl, _, hra, rfl⟩) hb2.size
        have ha : Sts w (fun _ => False) X (X.alloc o5) := Sts.of_below ((Below.refl _ X).alloc (Nat.le_refl _) o5)
        refine ⟨fun k hk hne => (World.putObj_heap_other hne).trans (Below.heap_alloc X o5 k hk), (World.putObj_heap_other (by omega)).trans (World.alloc_heap_new X o5), by simp [World.putObj], ?_⟩
        exact ⟨hg.os.trans ha.os, hg.tape.trans ha.tape, hg.output.trans ha.output, Nat.le_trans ha.size hg.size, fun k hk hk2 => (hg.low k hk (Nat.lt_of_lt_of_le hk2 ha.size)).trans (ha.low k hk hk2), fun k cs t f hc _ => hg.cells k cs t f (ha.cells k cs t f hc (fun f => f)) (fun f => f)⟩
      have Step := Lib.hid step; have HL0 := Lib.hid hl0; have HV0 := Lib.hid hv0; have H8 := Lib.hid h8; have H8x := Lib.hid h8x; have HNone := Lib.hid hnone; have HHr := Lib.hid hr; have HoX := Lib.hid hoX
      have HO5 := Lib.hid ho5; have HdX := Lib.hid hdX; have HeX := Lib.hid heX; have HbX := Lib.hid hbX
      clear step hl0 hv0 h8 h8x hnone hr hoX ho0 hd0 hst hI ho5 hdX heX hbX hbw
      unfold lvEnc
      dsimp only
      gi_wp2
      have ho5 := HO5.out
      subst ho5
      have hdX := HdX.out; have heX := HeX.out; have hbX := HbX.out
      clear HO5
      refine ⟨⟨by simp, fun k o _ hk _ => (Below.heap_alloc X _ k (Array.getElem?_eq_some_iff.1 hk).1).trans hk⟩, fun r' => ?_⟩
      obtain ⟨st1, st2, st3, st4⟩ := Step.out r'
      obtain ⟨B5, hB5⟩ : ∃ B5, X.heap.size = B5 := ⟨_, rfl⟩
      have ho2 := owns_sts HoX.out st4 (fun _ f => f.elim)
      have hd2 : Duo _ C 35 (.int .i64 day) (.slice av nv cv) := st4.cells _ _ _ _ hdX (fun f => f)
      have he2 : Boxed _ (C + 1) 27 (.int .i64 0) := st4.cells _ _ _ _ heX (fun f => f)
      have h82 : ∀ y ∈ pre, Own8 _ w1.heap.size y := fun y hy => ⟨owns_sts (H8.out y hy).1 st4 (fun _ f => f.elim), (H8.out y hy).2⟩
      have h8x2 : Own8 _ w1.heap.size _ := ⟨owns_sts H8x.out.1 st4 (fun _ f => f.elim), H8x.out.2⟩
      have hbV : Below w.heap.size w _ := ⟨st4.os.trans hbX.os, st4.tape.trans hbX.tape, st4.output.trans hbX.output, Nat.le_trans hbX.size st4.size, fun k hk => (st4.low k hk (Nat.lt_of_lt_of_le hk hbX.size)).trans (hbX.block k hk)⟩
      have hXs := st4.size
      generalize (X.alloc (.cells #[.int .i64 s.bits, .int .i64 s.hashes, .int .i64 s.salt, .slice ab nb cb, .int .i64 0] 73 (0, 0))).putObj l (.loop r') = V2 at *
      rw [hB5] at st2 st3 ⊢
      have b0 : V2.cell? ⟨B5, 0, none⟩ = some (.int .i64 s.bits) := by simp [World.cell?, st2]
      have b1 : V2.cell? ⟨B5, 1, none⟩ = some (.int .i64 s.hashes) := by simp [World.cell?, st2]
      have b2 : V2.cell? ⟨B5, 2, none⟩ = some (.int .i64 s.salt) := by simp [World.cell?, st2]
      have b3 : V2.cell? ⟨B5, 3, none⟩ = some (.slice ab nb cb) := by simp [World.cell?, st2]
      have b4 : V2.cell? ⟨B5, 4, none⟩ = some (.int .i64 0) := by simp [World.cell?, st2]
      have g4 : V2.frozen? ⟨B5, 4, none⟩ = false := by simp [World.frozen?, st2]
      have c0 := hd2.cell0; have c1 := hd2.cell1; have f0 := hd2.free 0; have f1 := hd2.free 1; have ce := he2.cell; have fe := he2.frozen
      have hlC := hd2.lt; have hlE := he2.lt
      have St1 := Lib.hid st1; have HO2 := Lib.hid ho2; have H82 := Lib.hid h82; have H8x2 := Lib.hid h8x2
      clear st1 st2 st4 ho2 h82 h8x2
      by_cases h : pre.length = 16
      · have hi16 : (pre.length : Int) = 16 := by omega
        have hnn := HNone.out h
        have hCB : C ≠ B5 := by have := hdX.lt; omega
        have hEB : C + 1 ≠ B5 := by have := heX.lt; omega
        have hbk : Below w.heap.size w (V2.setCell ⟨B5, 4, none⟩ (.int .i64 2)) := hbV.setCell (p := ⟨B5, 4, none⟩) (show w.heap.size ≤ B5 by have := hbX.size; omega) _
        have hkk : KeepsFrom w1.heap.size V2 (V2.setCell ⟨B5, 4, none⟩ (.int .i64 2)) := (KeepsOthers.setCell _ _ _).from _
        have k4 : (V2.setCell ⟨B5, 4, none⟩ (.int .i64 2)).cell? ⟨B5, 4, none⟩ = some (.int .i64 2) := World.cell?_setCell_same _ _ _ b4
        have hd3 := hd2.other (p := ⟨B5, 4, none⟩) (fun e => hCB e.symm) (.int .i64 2)
        have he3 := boxed_other he2 hEB 4 (.int .i64 2)
        have HNN := Lib.hid hnn; have HD3 := Lib.hid hd3; have HE3 := Lib.hid he3; have HBk := Lib.hid hbk; have HKk := Lib.hid hkk; have K4 := Lib.hid k4
        clear hnn hd3 he3 hbk hkk k4
        gi_wp2
        have k4 := K4.out; have hd3 := HD3.out; have he3 := HE3.out; have hbk := HBk.out; have hkk := HKk.out
        clear K4 HD3 HE3 HBk HKk
        generalize V2.setCell ⟨B5, 4, none⟩ (.int .i64 2) = V3 at *
        clear b0 b1 b2 b3 b4 g4 c0 c1 f0 f1 ce fe hd2 he2
        have c0 := hd3.cell0; have c1 := hd3.cell1; have f0 := hd3.free 0; have f1 := hd3.free 1; have ce := he3.cell; have fe := he3.frozen
        have nCB : ¬ C = B5 := hCB
        have nBC : ¬ B5 = C := fun e => hCB e.symm
        have nEB : ¬ C + 1 = B5 := hEB
        have nBE : ¬ B5 = C + 1 := fun e => hEB e.symm
        have qz := ((hd3.set0 (.int .i64 0)).set1 (.slice none 0 0)).other (p := ⟨C + 1, 0, none⟩) (by simp) (.int .i64 2)
        have ez := Boxed.set (.int .i64 2) (show Boxed ((V3.setCell ⟨C, 0, none⟩ (.int .i64 0)).setCell ⟨C, 1, none⟩ (.slice none 0 0)) (C + 1) 27 (.int .i64 0) from boxed_other (boxed_other he3 (by omega) 0 _) (by omega) 1 _)
        have hbz : Below w.heap.size w (((V3.setCell ⟨C, 0, none⟩ (.int .i64 0)).setCell ⟨C, 1, none⟩ (.slice none 0 0)).setCell ⟨C + 1, 0, none⟩ (.int .i64 2)) :=
          ((hbk.setCell (p := ⟨C, 0, none⟩) (show w.heap.size ≤ C by omega) _).setCell (p := ⟨C, 1, none⟩) (show w.heap.size ≤ C by omega) _).setCell (p := ⟨C + 1, 0, none⟩) (show w.heap.size ≤ C + 1 by omega) _
        have hkz : KeepsFrom w1.heap.size V2 (((V3.setCell ⟨C, 0, none⟩ (.int .i64 0)).setCell ⟨C, 1, none⟩ (.slice none 0 0)).setCell ⟨C + 1, 0, none⟩ (.int .i64 2)) :=
          ((hkk.trans ((KeepsOthers.setCell _ _ _).from _)).trans ((KeepsOthers.setCell _ _ _).from _)).trans ((KeepsOthers.setCell _ _ _).from _)
        have QZ := Lib.hid qz; have EZ := Lib.hid ez; have HBZ := Lib.hid hbz; have HKZ := Lib.hid hkz
        clear qz ez hbz hkz hd3 he3 hbk hkk
        gi_region
        all_goals
          gi_wp2
          exact ⟨⟨HKZ.out.size, HKZ.out.same⟩, rfl, HNN.out, ⟨QZ.out, EZ.out, HBZ.out.drew⟩⟩
      · have hi16 : ¬ (pre.length : Int) = 16 := by omega
        have hlt16 : pre.length < 16 := by omega
        gi_wp2_with (first
          | (gi_at_builtin; refine wpListIn_append_own _ rfl (.tmp 76) (.tmp 79) 33 rfl w1.heap.size 57 i0 (.agg #[.int .i64 0, .int .i64 0, .int .i64 0, .slice none 0 0]) 4 48 Try.underlying33 hinfo hz0 hz1 hz2 rfl (by decide) (.slice av nv cv) pre.length (levelCells pre) rfl (HO2.out.alloc _) ⟨V2.heap.size, 0, none⟩ 1 1 [.int .i64 s.bits, .int .i64 s.hashes, .int .i64 s.salt, .slice ab nb cb] rfl rfl (cells_new4 V2 _ _) (by intro u hu; simp at hu; rcases hu with rfl | rfl | rfl | rfl <;> rfl) (by unfold maxLen; omega) (by omega) (by simp; omega) ?_
             intro v' w5 own5 hgrow _
             obtain ⟨a5, n5, c5, rfl⟩ := owns_slice own5
             have d5 : Duo w5 C 35 (.int .i64 day) (.slice av nv cv) := grown_typed (HO2.out.alloc _) hgrow ((Below.heap_alloc V2 _ C hlC).trans hd2) (by decide)
             have x1 := d5.cell1; have y1 := d5.free 1)
          | fail)
        exact mk_step hd2 HO2.out he2 H82.out H8x2.out hbV hgrow own5 rfl (by omega) (by omega) (Nat.le_refl _) hl hXs St1.out ⟨_, HHr.out⟩ hG1 HL0.out (by omega) HV0.out hlt16
    case done =>
      rintro D xs X hD hS hI hK
      obtain ⟨v, hd, ho⟩ := hI.lv
      obtain ⟨av, nv, cv, rfl⟩ := owns_slice ho
      have hnv : nv = xs.length := by
        rcases ho.2 with ⟨h1, h2⟩ | ⟨g', cap', cur, h1, _⟩
        · cases h1; omega
        · cases h1; rfl
      subst hnv
      have e0 := hI.e
      have s0 : X.setCell ⟨C, 0, none⟩ (.int .i64 day) = X := setCell_self hd rfl
      have s1 : X.setCell ⟨C, 1, none⟩ (.slice av xs.length cv) = X := setCell_self hd rfl
      have s2 : X.setCell ⟨C + 1, 0, none⟩ (.int .i64 0) = X := setCell_self e0 rfl
      have hfin : ∀ o', MkI w C (C + 1) day w1.heap.size xs (X.putObj D o') := fun o' => hI.sts (Sts.of_grown (B := w1.heap.size) (grownBy_putObj' X D o') (fun q e => by cases e; exact ⟨hD, _, hK, rfl⟩) hb2.size) (fun _ f => f.elim) (fun f => f) (fun f => f)
      have hdf : ∀ o', Duo (X.putObj D o') C 35 (.int .i64 day) (.slice av xs.length cv) := fun o' => (World.putObj_heap_other (by have := hd.lt; omega)).trans hd
      have hof : ∀ o', (X.putObj D o').ownsRow w1.heap.size 57 4 (.slice av xs.length cv) xs.length (levelCells xs) := fun o' => owns_sts ho (Sts.of_grown (w := w) (B := w1.heap.size) (grownBy_putObj' X D o') (fun q e => by cases e; exact ⟨hD, _, hK, rfl⟩) hb2.size) (fun _ f => f.elim)
      have hsz := hb2.size
      have HSz := Lib.hid hsz
      clear hsz
      have HS := Lib.hid hS; have HK := Lib.hid hK; have HFin := Lib.hid hfin; have HDf := Lib.hid hdf; have HOf := Lib.hid hof
      have S0 := Lib.hid s0; have S1 := Lib.hid s1; have S2 := Lib.hid s2
      have c0 := hd.cell0; have c1 := hd.cell1; have f0 := hd.free 0; have f1 := hd.free 1; have ce := e0.cell; have fe := e0.frozen
      clear hI hS ho hK hd e0 hb2 hfin hdf hof s0 s1 s2
      gi_wp2
      go_wp2_with fail
      rw [S0.out, S1.out, S2.out, Exit.noGoto_ret]
      refine ⟨by simp, .inl ⟨_, _, rfl, run_takeDeferred HK.out, ?_⟩⟩
      refine ⟨_, casc_ret rfl rfl rfl (HDf.out _) (HFin.out _).e, .inl ⟨xs.map (·.s), av, cv, HS.out, by rw [List.length_map], ?_, ?_, (HFin.out _).bel⟩⟩
      · rw [List.length_map]
        exact svs_of (HOf.out _) (HFin.out _).own
      · rw [List.length_map]
        exact pasts_of (HOf.out _) (HFin.out _).own HSz.out
    case stop =>
      rintro D c pre X hD - ⟨rfl, hN, hX⟩ hK
      have hfin : ∀ o', MkX w C (C + 1) (X.putObj D o') := fun o' => hX.sts (Sts.of_grown (B := w1.heap.size) (grownBy_putObj' X D o') (fun q e => by cases e; exact ⟨hD, _, hK, rfl⟩) hb2.size) (fun f => f) (fun f => f)
      have HFin := Lib.hid hfin; have HK := Lib.hid hK; have HN := Lib.hid hN
      clear hfin hK hN hX
      gi_wp2
      rw [Exit.noGoto_ret]
      refine ⟨by simp, .inl ⟨_, _, rfl, run_takeDeferred HK.out, ?_⟩⟩
      exact ⟨_, casc_ret rfl rfl rfl (HFin.out _).c (HFin.out _).e, .inr ⟨HN.out, rfl, (HFin.out _).bel⟩⟩
end Go.Proofs.Ytconpdliadhahaa
end

section
namespace Go.Proofs.Ytconpdliadhahaa
open Go.RowKit

/-- What the closure answers, wherever A holds. -/
def AsksSt (A : World → Prop) (B : Nat) (q : Int → Bool) : Prop :=
  ∀ n W, A W → Calls Try.prog 45 #[.int .i64 n, .pointer (some ⟨B, 0, none⟩)] W fun e W' => e = .returned (.bool (!q n)) ∧ Below W.heap.size W W'
set_option maxRecDepth 100000 in
set_option maxHeartbeats 1000000 in
theorem IndexFunc_st (A : World → Prop) (B : Nat) (q : Int → Bool) (vl : Value) (l : List Int) (w : World) (hA : AsksSt A B q) (hS : ∀ W W', A W → Below W.heap.size W W' → A W') (h0 : A w) (h : Row .i64 w vl l) (hl : l.length ≤ 1000000) :
    Calls Try.prog 55 #[vl, .func (.func 45) #[] #[.pointer (some ⟨B, 0, none⟩)]] w fun e w' => ∃ r : Int, e = .returned (.int .i64 r) ∧ First q l r ∧ Below w.heap.size w w' := by
  have HA := Lib.hid hA; have HSt := Lib.hid hS
  clear hA hS
  obtain ⟨a, cap, rfl⟩ := h.shape l.length rfl
  have HR := Lib.hid h
  clear h
  go_enter Try.func55, Try.ntmps55
  go_wp2_with fail
  go_loopw [5, 8] (fun _ i wr => ∃ k : Nat, i = .int .i64 k ∧ k ≤ l.length ∧ (∀ j, j < k → q (l[j]?.getD 0) = true) ∧ Below w.heap.size w wr) (fun _ i _ => l.length - (intOf i).toNat)
  case atStart => exact ⟨0, rfl, Nat.zero_le _, fun j hj => absurd hj (Nat.not_lt_zero _), Below.refl _ _⟩
  case round =>
    obtain ⟨k, rfl, hk, hall, hb⟩ := hrel
    have Hall := Lib.hid hall
    clear hall
    have k0 : (0 : Int) ≤ (k : Int) := by omega
    have e1 : IntKind.i64.wrap ((k : Int) + 1) = (k : Int) + 1 := IntWalk.i64_in _ (by omega)
    by_cases hlt : k < l.length
    · have k1 : (k : Int) < (l.length : Int) := by omega
      have hrw := HR.out.below hb
      obtain ⟨_, _, e', _, _, _, _, h5⟩ := hrw
      cases e'
      obtain ⟨b0, o0, rfl, hb00, hc0⟩ := h5 (by rintro rfl; simp at hlt)
      have hck := hc0 k hlt
      obtain ⟨x, hx⟩ : ∃ x, l[k]?.getD 0 = x := ⟨_, rfl⟩
      rw [hx] at hck
      have HX := Lib.hid hx
      clear hc0 h5 hx
      have hC := HA.out x wr (HSt.out _ _ h0 hb)
      have hbs := hb.size
      cases hqx : q x with
      | true =>
        rw [hqx] at hC
        go_wp2_with fail
        refine hC.mono ?_; rintro e w2 ⟨rfl, hb2⟩
        have hb3 := hb.trans (hb2.mono hbs)
        have HQ := Lib.hid hqx
        clear hC hb2 hqx hck
        go_wp2_with fail
        go_roundw
        case rel =>
          refine ⟨k + 1, by go_num, by omega, fun j hj => ?_, hb3⟩
          rcases Nat.lt_or_ge j k with h | h
          · exact Hall.out j h
          · obtain rfl : j = k := by omega
            rw [HX.out]; exact HQ.out
        case measure => simp [intOf]; omega
      | false =>
        rw [hqx] at hC
        go_wp2_with fail
        refine hC.mono ?_; rintro e w2 ⟨rfl, hb2⟩
        have hb3 := hb.trans (hb2.mono hbs)
        have HQ := Lib.hid hqx
        clear hC hb2 hqx hck
        go_wp2_with fail
        go_ret
        exact ⟨k, rfl, .inr ⟨k, hlt, rfl, by rw [HX.out]; exact HQ.out, Hall.out⟩, hb3⟩
    · obtain rfl : k = l.length := by omega
      go_wp2_with fail
      go_ret
      exact ⟨-1, rfl, .inl ⟨rfl, Hall.out⟩, hb⟩

set_option maxRecDepth 100000 in
set_option maxHeartbeats 2000000 in
theorem DeleteFunc_st (A : World → Prop) (base : Nat) (B : Nat) (q : Int → Bool) (g cap : Nat) (l : List Int) (w : World) (hA : AsksSt A B q) (hS : ∀ W W', A W → Below W.heap.size W W' → A W') (hG : ∀ W o v, A W → A (W.setCell ⟨g, o, none⟩ v)) (h0 : A w) (hbw : base ≤ w.heap.size) (hwf : ∀ x ∈ l, (Lit.int .i64 x).wf = true)
    (h : w.ownsRow base 3 1 (.slice (some ⟨g, 0, none⟩) l.length cap) l.length (l.map (Value.int .i64))) (hl : l.length ≤ 1000000) :
    Calls Try.prog 37 #[.slice (some ⟨g, 0, none⟩) l.length cap, .func (.func 45) #[] #[.pointer (some ⟨B, 0, none⟩)]] w fun e w' =>
      e = .returned (.slice (some ⟨g, 0, none⟩) (l.filter q).length cap) ∧ w'.ownsRow base 3 1 (.slice (some ⟨g, 0, none⟩) (l.filter q).length cap) (l.filter q).length ((l.filter q).map (Value.int .i64)) ∧ Below base w w' := by
  have HA := Lib.hid hA; have HSt := Lib.hid hS; have HG := Lib.hid hG
  have hgb : base ≤ g := own_above h rfl
  have hcap : l.length ≤ cap := by
    rcases h.2 with ⟨h1, _⟩ | ⟨_, _, _, h1, _, _, hnc, _⟩
    · cases h1
    · cases h1; exact hnc
  have hrow : Row .i64 w (.slice (some ⟨g, 0, none⟩) l.length cap) l := Row.of_owns h hwf
  have hI := IndexFunc_st A B q _ l w hA hS h0 hrow hl
  have HO := Lib.hid h; have HRo := Lib.hid hrow
  clear hA hrow h hwf hS hG
  go_enter Try.func37, Try.ntmps37
  go_wp2_with fail
  refine hI.mono ?_; rintro e w1 ⟨r, rfl, hF, hb1⟩
  clear hI
  have hw1 := hb1.mono hbw
  have ha1 := HSt.out _ _ h0 hb1
  have own1 := owns_below HO.out hb1
  rcases hF with ⟨rfl, hall⟩ | ⟨k, hk, rfl, hf, ht⟩
  · have hfil : l.filter q = l := by
      rw [List.filter_eq_self]
      intro x hx
      obtain ⟨i, hi, rfl⟩ := List.getElem_of_mem hx
      have := hall i hi
      rw [List.getElem?_eq_getElem hi] at this; exact this
    have HFil := Lib.hid hfil
    clear hall hfil
    go_wp2_with fail
    go_ret
    rw [HFil.out]
    exact ⟨rfl, own1, hw1⟩
  · have hK := Keeping.start hk hf ht
    have HK := Lib.hid hK
    have e1 : IntKind.i64.wrap ((k : Int) + 1) = (k : Int) + 1 := IntWalk.i64_in _ (by omega)
    have hne : ¬ (k : Int) = -1 := by omega
    clear hf ht hK hb1
    go_wp2_with fail
    go_loopw [5, 6, 7] (fun iv jv _ wr => ∃ (i j : Nat) (R : List Int), iv = .int .i64 i ∧ jv = .int .i64 j ∧ j ≤ l.length ∧ Keeping q l R i j ∧ wr.ownsRow base 3 1 (.slice (some ⟨g, 0, none⟩) l.length cap) l.length (R.map (Value.int .i64)) ∧ Below base w wr ∧ A wr) (fun _ jv _ _ => l.length - (intOf jv).toNat)
    case atStart => exact ⟨k, k + 1, l, rfl, by go_num, by omega, HK.out, own1, hw1, ha1⟩
    case round =>
      obtain ⟨i, j, R, rfl, rfl, hj, hKp, own, hb, ha⟩ := hrel
      clear own1 hw1
      have hij := hKp.lt; have hRl := hKp.len
      have HKp := Lib.hid hKp
      have k0 : (0 : Int) ≤ (j : Int) := by omega
      have k2 : (0 : Int) ≤ (i : Int) := by omega
      have e2 : IntKind.i64.wrap ((j : Int) + 1) = (j : Int) + 1 := IntWalk.i64_in _ (by omega)
      have e3 : IntKind.i64.wrap ((i : Int) + 1) = (i : Int) + 1 := IntWalk.i64_in _ (by omega)
      clear hKp
      by_cases hlt : j < l.length
      · have k1 : (j : Int) < (l.length : Int) := by omega
        have k3 : (i : Int) < (l.length : Int) := by omega
        have hck := owns_cell64 own j (by omega)
        rw [HKp.out.high j (Nat.le_refl _)] at hck
        obtain ⟨x, hx⟩ : ∃ x, l[j]?.getD 0 = x := ⟨_, rfl⟩
        rw [hx] at hck
        have HX := Lib.hid hx
        clear hx
        have hC := HA.out x wr ha
        cases hqx : q x with
        | true =>
          rw [hqx] at hC
          go_wp2_with fail
          refine hC.mono ?_; rintro e w2 ⟨rfl, hb2⟩
          have hb3 := hb.trans (hb2.mono (Nat.le_trans hbw hb.size))
          have ha2 := HSt.out _ _ ha hb2
          have own2 := owns_below own hb2
          have hci := owns_cell64 own2 i (by omega)
          have hfi := owns_free own2 i
          have hK2 := HKp.out.keep hlt (by rw [HX.out]; exact hqx)
          rw [HX.out] at hK2
          have own3 := owns_set own2 i (.int .i64 x)
          rw [← List.map_set] at own3
          have hb4 := hb3.setCell (p := ⟨g, i, none⟩) hgb (.int .i64 x)
          have HK2 := Lib.hid hK2; have HO3 := Lib.hid own3; have HB4 := Lib.hid hb4
          clear hC hb2 hqx hck hK2 own3 own2 hb3 hb4 own
          go_wp2_with fail
          go_roundw
          case rel =>
            (repeat apply Exists.intro)
            refine ⟨?_, rfl⟩
            exact ⟨i + 1, j + 1, R.set i x, by go_num, by go_num, by omega, HK2.out, HO3.out, HB4.out, HG.out _ _ _ ha2⟩
          case measure => simp [intOf]; omega
        | false =>
          rw [hqx] at hC
          go_wp2_with fail
          refine hC.mono ?_; rintro e w2 ⟨rfl, hb2⟩
          have hb3 := hb.trans (hb2.mono (Nat.le_trans hbw hb.size))
          have ha2 := HSt.out _ _ ha hb2
          have own2 := owns_below own hb2
          have hK2 := HKp.out.skip hlt (by rw [HX.out]; exact hqx)
          have HK2 := Lib.hid hK2
          clear hC hb2 hqx hck hK2 own
          go_wp2_with fail
          go_roundw
          case rel =>
            (repeat apply Exists.intro)
            refine ⟨?_, rfl⟩
            exact ⟨i, j + 1, R, rfl, by go_num, by omega, HK2.out, own2, hb3, ha2⟩
          case measure => simp [intOf]; omega
      · obtain rfl : j = l.length := by omega
        have hlow := HKp.out.low
        rw [List.take_length] at hlow
        have hil : (l.filter q).length = i := by rw [← hlow]; simp; omega
        have hcl : ∀ ty, (Builtin.clear_ #[22] ty #[.slice (some ⟨g, i, none⟩) (l.length - i) (cap - i)]).run Try.prog wr = .ok (.tuple #[]) (wr.setCells g i (List.replicate (l.length - i) (.int .i64 0))) :=
          fun ty => Lib.run_clear_slice wr 22 3 ty (.int .i64 0) Try.underlying22 (fun _ => by kernel_rfl) rfl rfl g i _ _ (by omega) (fun t ht => by rw [owns_cell64 own (i + t) (by omega)]; rfl) (fun t ht => owns_free own (i + t))
        obtain ⟨xs', own2, htk⟩ := owns_setCells (List.replicate (l.length - i) (Value.int .i64 0)) i own
        have hb2 := below_setCells hgb (List.replicate (l.length - i) (Value.int .i64 0)) i hb
        have own3 := owns_take own2 i (by omega)
        rw [htk i (Nat.le_refl _), ← List.map_take, hlow] at own3
        have HO3 := Lib.hid own3; have HB2 := Lib.hid hb2; have HIl := Lib.hid hil
        have k3 : (i : Int) ≤ (l.length : Int) := by omega
        have k4 : (i : Int) ≤ (cap : Int) := by omega
        have k5 : ¬ cap = i := by omega
        clear own own2 own3 htk hlow hb2 hil
        go_wp2_with fail
        go_ret
        rw [HIl.out]
        refine ⟨rfl, ?_, HB2.out⟩
        have := HO3.out
        exact this
set_option maxRecDepth 100000 in
set_option maxHeartbeats 1000000 in
theorem DeleteFunc_none_st (B : Nat) (w : World) :
    Calls Try.prog 37 #[.slice none 0 0, .func (.func 45) #[] #[.pointer (some ⟨B, 0, none⟩)]] w fun e w' => e = .returned (.slice none 0 0) ∧ Below w.heap.size w w' := by
  have hI : Calls Try.prog 55 #[.slice none 0 0, .func (.func 45) #[] #[.pointer (some ⟨B, 0, none⟩)]] w fun e w' => e = .returned (.int .i64 (-1)) ∧ Below w.heap.size w w' := by
    go_enter Try.func55, Try.ntmps55
    go_wp2_with fail
    refine wp_loop_rounds 1 ?_
    rw [rounds_succ]
    go_wp2_with fail
    go_ret
    exact ⟨rfl, Below.refl _ _⟩
  go_enter Try.func37, Try.ntmps37
  go_wp2_with fail
  refine hI.mono ?_; rintro e w1 ⟨rfl, hb1⟩
  go_wp2_with fail
  go_ret
  exact ⟨rfl, hb1⟩

end Go.Proofs.Ytconpdliadhahaa
end

section
namespace Go.Proofs.Ytconpdliadhahaa
open Go.RowKit

theorem Make_none (vi vo : Value) (ins outs : List Int) (day : Int) (w : World) (hi : Row .i64 w vi ins) (ho : Row .i64 w vo outs) (h1 : NumOk ins) (h2 : NumOk outs) (h3 : Cm.dated day) (hdj : Cm.disjoint ins outs) (hb : Cm.build day 16 0 ins outs = none) :
    Calls Try.prog 36 #[vi, vo, .int .i64 day] w fun e w' => e = .returned (.tuple #[.agg #[.int .i64 0, .slice none 0 0], .int .i64 2]) ∧ Below w.heap.size w w' := by
  refine (Make_go vi vo ins outs day w hi ho (by have := h1.2; omega) (by have := h2.2; omega) h1 h2 h3 hdj).mono ?_
  rintro e w' (⟨ls, a, c, hl, -⟩ | ⟨-, h⟩)
  · rw [hb] at hl; cases hl
  · exact h
theorem Make_some (vi vo : Value) (ins outs : List Int) (day : Int) (ls : List Sm.Sv) (w : World) (hi : Row .i64 w vi ins) (ho : Row .i64 w vo outs) (h1 : NumOk ins) (h2 : NumOk outs) (h3 : Cm.dated day) (hdj : Cm.disjoint ins outs) (hb : Cm.build day 16 0 ins outs = some ls) :
    Calls Try.prog 36 #[vi, vo, .int .i64 day] w fun e w' => ∃ a c, e = .returned (.tuple #[.agg #[.int .i64 day, .slice a ls.length c], .int .i64 0]) ∧ Svs w' (.slice a ls.length c) ls ∧ PastS w.heap.size w' (.slice a ls.length c) ls ∧ Below w.heap.size w w' := by
  refine (Make_go vi vo ins outs day w hi ho (by have := h1.2; omega) (by have := h2.2; omega) h1 h2 h3 hdj).mono ?_
  rintro e w' (⟨ls', a, c, hl, rfl, h⟩ | ⟨hl, -⟩)
  · rw [hb] at hl; cases hl
    exact ⟨a, c, rfl, h⟩
  · rw [hb] at hl; cases hl

/-- What is left. -/
def Rv.left (live gone : List Int) : List Int := live.filter fun n => !decide (n ∈ gone)
theorem Rv.mem_left (live gone : List Int) (x : Int) : x ∈ Rv.left live gone ↔ x ∈ live ∧ x ∉ gone := by simp [Rv.left]
/-- The levels of a day's cascade, if there is one. -/
def Rv.day (live gone : List Int) (day : Int) : Option (List Sm.Sv) := if Rv.okay live gone ∧ Cm.dated day then Cm.build day 16 0 gone (Rv.left live gone) else none
theorem Rv.left_ok {live gone : List Int} (h : Rv.okay live gone) : NumOk gone ∧ NumOk (Rv.left live gone) ∧ Cm.disjoint gone (Rv.left live gone) := by
  refine ⟨⟨h.1.2.1, Rv.gone_le h⟩, ⟨⟨fun x hx => h.1.1.1 x (List.mem_filter.1 hx).1, h.1.1.2.filter _⟩, Nat.le_trans (List.length_filter_le _ _) h.2⟩, fun x hx hm => ?_⟩
  exact ((Rv.mem_left _ _ _).1 hm).2 hx
theorem Rv.day_has {live gone : List Int} {day : Int} {ls : List Sm.Sv} (h : Rv.day live gone day = some ls) : Rv.okay live gone ∧ Cm.dated day ∧ Cm.good day ls ∧ 1 ≤ ls.length ∧ (∀ x ∈ gone, Cm.has day ls x = true) ∧ ∀ x ∈ live, x ∉ gone → Cm.has day ls x = false := by
  unfold Rv.day at h
  by_cases hc : Rv.okay live gone ∧ Cm.dated day
  · rw [if_pos hc] at h
    obtain ⟨k1, k2, k3⟩ := Rv.left_ok hc.1
    have g := Cm.good_build day hc.2 gone _ ls (by have := k1.2; omega) (by have := k2.2; omega) k1.1.1 k2.1.1 h
    have t := Cm.has_build day hc.2 gone _ ls (by have := k1.2; omega) (by have := k2.2; omega) k1.1.1 k2.1.1 k3 h
    exact ⟨hc.1, hc.2, g.1, g.2, t.1, fun x hx hn => t.2 x ((Rv.mem_left _ _ _).2 ⟨hx, hn⟩)⟩
  · rw [if_neg hc] at h; cases h

theorem DelIn_any (D : Nat) (vg r : Value) (live gone : List Int) (base : Nat) (w : World) (own : w.ownsRow base 3 1 r live.length (live.map (Value.int .i64))) (hwf : ∀ x ∈ live, (Lit.int .i64 x).wf = true) (hl : live.length ≤ 1000000) (hgl : gone.length ≤ 1000000) (hs : gone.Pairwise (· < ·))
    (hD : Boxed w D 22 vg) (hg : Row .i64 w vg gone) (hvg : ∀ b o n c, vg = .slice (some ⟨b, o, none⟩) n c → 0 < n → b < base) (hb : base ≤ w.heap.size) :
    Calls Try.prog 37 #[r, .func (.func 45) #[] #[.pointer (some ⟨D, 0, none⟩)]] w fun e w' => ∃ a c, e = .returned (.slice a (Rv.left live gone).length c) ∧ Row .i64 w' (.slice a (Rv.left live gone).length c) (Rv.left live gone) ∧ Below base w w' := by
  rcases own.2 with ⟨rfl, h0⟩ | ⟨g, cap, cur, rfl, hbg, hh, hnc, hcm, hcs, ht⟩
  · obtain rfl : live = [] := List.length_eq_zero_iff.1 h0
    refine (DeleteFunc_none_st D w).mono ?_
    rintro e w' ⟨rfl, hb'⟩
    exact ⟨none, 0, rfl, Row.nil _ _, hb'.mono hb⟩
  · have hne : D ≠ g := fun e => boxed_ne hD hh (by decide) e.symm
    have hoff : Off g vg := fun b o n c e hn he => by have := hvg b o n c e hn; omega
    refine (DeleteFunc_st (fun W => Boxed W D 22 vg ∧ Row .i64 W vg gone) base D (fun n => !decide (n ∈ gone)) g cap live w ?_ (fun W W' h hb' => ⟨boxed_stp h.1 hb', h.2.below hb'⟩)
      (fun W o v h => ⟨boxed_other h.1 hne o v, h.2.aside (p := ⟨g, o, none⟩) hoff v⟩) ⟨hD, hg⟩ hb hwf own hl).mono ?_
    · intro n W h
      have := in1_any n vg gone D W h.1 h.2 hgl hs
      rw [Bool.not_not]
      exact this
    · rintro e w' ⟨rfl, own2, hb'⟩
      refine ⟨_, _, rfl, Row.owned64 (l := Rv.left live gone) own2 (fun x hx => hwf x (List.mem_filter.1 hx).1), hb'⟩
end Go.Proofs.Ytconpdliadhahaa
end

section
namespace Go.Proofs.Ytconpdliadhahaa
open Go.RowKit

theorem casc_tmp {tmps : Array Value} {W : World} {g : Nat} {fn : Func} {p q : Tmp} (hr : fn.results = #[.cell p 35, .tmp q]) (hp : tmps.getD p undef = .pointer (some ⟨g, 0, none⟩)) {x y : Value} (hd : Duo W g 35 x y) :
    (results fn tmps).run Try.prog W = .ok (.tuple #[.agg #[x, y], tmps.getD q undef]) W :=
  results_cell_tmp hr _ _ g _ _ _ _ hp hd Try.underlying35 rfl (by kernel_rfl)
set_option maxRecDepth 100000 in
set_option maxHeartbeats 8000000 in
theorem Day_not (vl vg : Value) (live gone : List Int) (day : Int) (w : World) (h : Row .i64 w vl live) (hg : Row .i64 w vg gone) (hl : live.length ≤ 1000000) (hgl : gone.length ≤ 1000000) (hno : ¬ Rv.okay live gone) :
    Calls Try.prog 21 #[.agg #[vl, vg], .int .i64 day] w fun e w' => (∃ cc : Int, cc ≠ 0 ∧ e = .returned (.tuple #[.agg #[.int .i64 0, .slice none 0 0], .int .i64 cc])) ∧ Below w.heap.size w w' := by
  have hwf := h.wf
  have hlow := hg.low
  obtain ⟨al, cl, rfl⟩ := h.shape live.length rfl
  obtain ⟨ag, cg, rfl⟩ := hg.shape gone.length rfl
  obtain ⟨B, hB⟩ : ∃ B, w.heap.size = B := ⟨_, rfl⟩
  have q0 := Duo.new w 24 (.slice al live.length cl) (.slice ag gone.length cg)
  rw [hB] at q0 hlow
  have z0 := Duo.new' (w.alloc (.cells #[.slice al live.length cl, .slice ag gone.length cg] 24)) 35 (.int .i64 0) (.slice none 0 0) (B + 1) (by simp [hB])
  replace q0 := q0.alloc (.cells #[.int .i64 0, .slice none 0 0] 35)
  have hb0 := ((Below.refl w.heap.size w).alloc (Nat.le_refl _) (.cells #[.slice al live.length cl, .slice ag gone.length cg] 24)).alloc (by simp) (.cells #[.int .i64 0, .slice none 0 0] 35)
  have r0 := (h.alloc (.cells #[.slice al live.length cl, .slice ag gone.length cg] 24)).alloc (.cells #[.int .i64 0, .slice none 0 0] 35)
  have s0 := (hg.alloc (.cells #[.slice al live.length cl, .slice ag gone.length cg] 24)).alloc (.cells #[.int .i64 0, .slice none 0 0] 35)
  have HB := Lib.hid hB
  have R0 := Lib.hid r0; have S0 := Lib.hid s0; have HWf := Lib.hid hwf; have HLow := Lib.hid hlow
  clear h hg r0 s0 hB hwf hlow
  have c0 := q0.cell0; have c1 := q0.cell1
  have hck := Rv.chk_not hno
  obtain ⟨cc, hcc⟩ : ∃ cc, Rv.chk live gone = cc := ⟨_, rfl⟩
  rw [hcc] at hck
  have HC := Lib.hid hcc
  clear hcc hno
  go_enter Try.func21, Try.ntmps21
  go_wp2_with fail
  (try rw [HB.out])
  go_wp2_with fail
  refine (RCheck_any _ _ live gone _ R0.out S0.out hl hgl).mono ?_; rintro e V ⟨rfl, hb1⟩
  rw [HC.out]
  have hB1 := hb0.trans (hb1.mono hb0.size)
  have q1 := q0.stp hb1
  have z1 := z0.stp hb1
  have R1 := Lib.hid (R0.out.below hb1); have S1 := Lib.hid (S0.out.below hb1)
  clear hb1 c0 c1 hb0 q0 z0
  have c0 := q1.cell0; have c1 := q1.cell1; have ltB := q1.lt; have ltZ := z1.lt
  have f0 := z1.free 0; have f1 := z1.free 1; have d0 := z1.cell0; have d1 := z1.cell1
  go_wp2_with fail
  have hzz := (z1.set0 (.int .i64 0)).set1 (.slice none 0 0)
  refine bodyPost_ret (casc_tmp rfl rfl hzz) rfl ⟨⟨cc, hck, rfl⟩, (hB1.setCell (by rw [HB.out]; simp) _).setCell (by rw [HB.out]; simp) _⟩

set_option maxRecDepth 100000 in
set_option maxHeartbeats 8000000 in
theorem Day_arg (vl vg : Value) (live gone : List Int) (day : Int) (w : World) (h : Row .i64 w vl live) (hg : Row .i64 w vg gone) (hl : live.length ≤ 1000000) (hgl : gone.length ≤ 1000000) (hok : Rv.okay live gone) (hbd : ¬ Cm.dated day) :
    Calls Try.prog 21 #[.agg #[vl, vg], .int .i64 day] w fun e w' => e = .returned (.tuple #[.agg #[.int .i64 0, .slice none 0 0], .int .i64 1]) ∧ Below w.heap.size w w' := by
  have hwf := h.wf
  have hlow := hg.low
  obtain ⟨al, cl, rfl⟩ := h.shape live.length rfl
  obtain ⟨ag, cg, rfl⟩ := hg.shape gone.length rfl
  obtain ⟨B, hB⟩ : ∃ B, w.heap.size = B := ⟨_, rfl⟩
  have q0 := Duo.new w 24 (.slice al live.length cl) (.slice ag gone.length cg)
  rw [hB] at q0 hlow
  have z0 := Duo.new' (w.alloc (.cells #[.slice al live.length cl, .slice ag gone.length cg] 24)) 35 (.int .i64 0) (.slice none 0 0) (B + 1) (by simp [hB])
  replace q0 := q0.alloc (.cells #[.int .i64 0, .slice none 0 0] 35)
  have hb0 := ((Below.refl w.heap.size w).alloc (Nat.le_refl _) (.cells #[.slice al live.length cl, .slice ag gone.length cg] 24)).alloc (by simp) (.cells #[.int .i64 0, .slice none 0 0] 35)
  have r0 := (h.alloc (.cells #[.slice al live.length cl, .slice ag gone.length cg] 24)).alloc (.cells #[.int .i64 0, .slice none 0 0] 35)
  have s0 := (hg.alloc (.cells #[.slice al live.length cl, .slice ag gone.length cg] 24)).alloc (.cells #[.int .i64 0, .slice none 0 0] 35)
  have HB := Lib.hid hB
  have R0 := Lib.hid r0; have S0 := Lib.hid s0; have HWf := Lib.hid hwf; have HLow := Lib.hid hlow
  clear h hg r0 s0 hB hwf hlow
  have c0 := q0.cell0; have c1 := q0.cell1
  have hck := Rv.chk_okay hok
  obtain ⟨k1, k2, k3⟩ := Rv.left_ok hok
  have K1 := Lib.hid k1; have K2 := Lib.hid k2; have K3 := Lib.hid k3; have HOk := Lib.hid hok; have HC := Lib.hid hck; have HBd := Lib.hid hbd
  have hsr := hok.1.2.1.2
  have HSr := Lib.hid hsr
  clear hck k1 k2 k3 hok hbd hsr
  go_enter Try.func21, Try.ntmps21
  go_wp2_with fail
  (try rw [HB.out])
  go_wp2_with fail
  refine (RCheck_any _ _ live gone _ R0.out S0.out hl hgl).mono ?_; rintro e V ⟨rfl, hb1⟩
  rw [HC.out]
  have hB1 := hb0.trans (hb1.mono hb0.size)
  have q1 := q0.stp hb1
  have z1 := z0.stp hb1
  have R1 := Lib.hid (R0.out.below hb1); have S1 := Lib.hid (S0.out.below hb1)
  clear hb1 c0 c1 hb0 q0 z0
  have c0 := q1.cell0; have c1 := q1.cell1; have ltB := q1.lt; have ltZ := z1.lt
  have f0 := z1.free 0; have f1 := z1.free 1; have d0 := z1.cell0; have d1 := z1.cell1
  have nBZ : ¬ B = B + 1 := by omega
  have nZB : ¬ B + 1 = B := by omega
  go_wp2_with fail
  go_region_held3 (fun w' => w'.cell? ⟨B, 0, none⟩ = some (.slice al live.length cl) ∧ w'.cell? ⟨B, 1, none⟩ = some (.slice ag gone.length cg))
    (first | go_keep | (refine ⟨?_, ?_⟩ <;> assumption))
    (first
    | (go_at_call 38
       refine (Clone64_any _ live _ (by first | exact R1.out.below kB | exact R1.out) (by omega)).mono ?_
       rintro e wA ⟨rA, rfl, ownA, hbA⟩
       first
         | (have kA : Below V.heap.size V wA := kB.trans (hbA.mono kB.size)
            replace bB := boxed_stp bB hbA
            have oA := owns_base (b' := V.heap.size) ownA kB.size)
         | (have kA : Below V.heap.size V wA := ⟨hbA.os, hbA.tape, hbA.output, hbA.size, hbA.block⟩
            have oA := owns_base (b' := V.heap.size) ownA (Nat.le_refl _))
       clear ownA hbA
       obtain ⟨aA, nA, cA, rfl⟩ := owns_slice oA
       have x0 := (q1.stp kA).cell0; have x1 := (q1.stp kA).cell1)
    | (go_at_call 29
       refine (in_any ag gone.length cg _).mono ?_
       rintro e wB ⟨rfl, hwB⟩
       first
         | (have hbB : Below wA.heap.size wA wB := by rw [← hwB]; exact (Below.refl _ _).alloc (Nat.le_refl _) _
            have bB : Boxed wB wA.heap.size 22 (.slice ag gone.length cg) := by rw [← hwB]; exact Boxed.new _ _ _
            have kB := kA.trans (hbB.mono kA.size)
            replace oA := owns_below oA hbB
            clear hbB)
         | (have kB : Below V.heap.size V wB := by rw [← hwB]; exact ((Below.refl V.heap.size V).drew).alloc (Nat.le_refl _) _
            have bB : Boxed wB V.heap.size 22 (.slice ag gone.length cg) := by rw [← hwB]; exact Boxed.new V.drew _ _)
       clear hwB
       have y0 := (q1.stp kB).cell0; have y1 := (q1.stp kB).cell1)
    | (go_at_call 37
       refine (DelIn_any _ _ _ live gone V.heap.size _ (by exact oA) HWf.out hl hgl HSr.out (by exact bB) (by first | exact S1.out.below kA | exact S1.out.below kB) (fun b o n c e hn => Nat.lt_of_lt_of_le (HLow.out b o n c e hn) (Nat.le_of_lt ltB)) (by first | exact kA.size | exact kB.size)).mono ?_
       rintro e wC ⟨aC, cC, rfl, rC, hbC⟩
       first
         | (have kC : Below V.heap.size V wC := kA.trans hbC)
         | (have kC : Below V.heap.size V wC := kB.trans hbC)
       have u0 := (q1.stp kC).cell0; have u1 := (q1.stp kC).cell1
       have rG := S1.out.below kC)
    | (go_at_call 36
       refine (Make_arg _ _ gone (Rv.left live gone) day wC rG rC hgl (by have := K2.out.2; omega) (fun h => HBd.out h.2.2)).mono ?_
       rintro e wD ⟨rfl, hbD⟩
       have kD : Below V.heap.size V wD := kC.trans (hbD.mono kC.size)
       have v0 := (q1.stp kD).cell0; have v1 := (q1.stp kD).cell1
       have zD := z1.stp kD
       have t0 := zD.cell0; have t1 := zD.cell1; have t2 := zD.free 0; have t3 := zD.free 1)
    | fail)
  all_goals
    go_wp2_with fail
    have hzz := (zD.set0 (.int .i64 0)).set1 (.slice none 0 0)
    have hBD := hB1.trans (kD.mono hB1.size)
    refine bodyPost_ret (casc_tmp rfl rfl hzz) rfl ?_
    exact ⟨rfl, (hBD.setCell (by rw [HB.out]; simp) _).setCell (by rw [HB.out]; simp) _⟩

set_option maxRecDepth 100000 in
set_option maxHeartbeats 8000000 in
theorem Day_none (vl vg : Value) (live gone : List Int) (day : Int) (w : World) (h : Row .i64 w vl live) (hg : Row .i64 w vg gone) (hl : live.length ≤ 1000000) (hgl : gone.length ≤ 1000000) (hok : Rv.okay live gone) (hbd : Cm.dated day ∧ Cm.build day 16 0 gone (Rv.left live gone) = none) :
    Calls Try.prog 21 #[.agg #[vl, vg], .int .i64 day] w fun e w' => e = .returned (.tuple #[.agg #[.int .i64 0, .slice none 0 0], .int .i64 2]) ∧ Below w.heap.size w w' := by
  have hwf := h.wf
  have hlow := hg.low
  obtain ⟨al, cl, rfl⟩ := h.shape live.length rfl
  obtain ⟨ag, cg, rfl⟩ := hg.shape gone.length rfl
  obtain ⟨B, hB⟩ : ∃ B, w.heap.size = B := ⟨_, rfl⟩
  have q0 := Duo.new w 24 (.slice al live.length cl) (.slice ag gone.length cg)
  rw [hB] at q0 hlow
  have z0 := Duo.new' (w.alloc (.cells #[.slice al live.length cl, .slice ag gone.length cg] 24)) 35 (.int .i64 0) (.slice none 0 0) (B + 1) (by simp [hB])
  replace q0 := q0.alloc (.cells #[.int .i64 0, .slice none 0 0] 35)
  have hb0 := ((Below.refl w.heap.size w).alloc (Nat.le_refl _) (.cells #[.slice al live.length cl, .slice ag gone.length cg] 24)).alloc (by simp) (.cells #[.int .i64 0, .slice none 0 0] 35)
  have r0 := (h.alloc (.cells #[.slice al live.length cl, .slice ag gone.length cg] 24)).alloc (.cells #[.int .i64 0, .slice none 0 0] 35)
  have s0 := (hg.alloc (.cells #[.slice al live.length cl, .slice ag gone.length cg] 24)).alloc (.cells #[.int .i64 0, .slice none 0 0] 35)
  have HB := Lib.hid hB
  have R0 := Lib.hid r0; have S0 := Lib.hid s0; have HWf := Lib.hid hwf; have HLow := Lib.hid hlow
  clear h hg r0 s0 hB hwf hlow
  have c0 := q0.cell0; have c1 := q0.cell1
  have hck := Rv.chk_okay hok
  obtain ⟨k1, k2, k3⟩ := Rv.left_ok hok
  have K1 := Lib.hid k1; have K2 := Lib.hid k2; have K3 := Lib.hid k3; have HOk := Lib.hid hok; have HC := Lib.hid hck; have HBd := Lib.hid hbd
  have hsr := hok.1.2.1.2
  have HSr := Lib.hid hsr
  clear hck k1 k2 k3 hok hbd hsr
  go_enter Try.func21, Try.ntmps21
  go_wp2_with fail
  (try rw [HB.out])
  go_wp2_with fail
  refine (RCheck_any _ _ live gone _ R0.out S0.out hl hgl).mono ?_; rintro e V ⟨rfl, hb1⟩
  rw [HC.out]
  have hB1 := hb0.trans (hb1.mono hb0.size)
  have q1 := q0.stp hb1
  have z1 := z0.stp hb1
  have R1 := Lib.hid (R0.out.below hb1); have S1 := Lib.hid (S0.out.below hb1)
  clear hb1 c0 c1 hb0 q0 z0
  have c0 := q1.cell0; have c1 := q1.cell1; have ltB := q1.lt; have ltZ := z1.lt
  have f0 := z1.free 0; have f1 := z1.free 1; have d0 := z1.cell0; have d1 := z1.cell1
  have nBZ : ¬ B = B + 1 := by omega
  have nZB : ¬ B + 1 = B := by omega
  go_wp2_with fail
  go_region_held3 (fun w' => w'.cell? ⟨B, 0, none⟩ = some (.slice al live.length cl) ∧ w'.cell? ⟨B, 1, none⟩ = some (.slice ag gone.length cg))
    (first | go_keep | (refine ⟨?_, ?_⟩ <;> assumption))
    (first
    | (go_at_call 38
       refine (Clone64_any _ live _ (by first | exact R1.out.below kB | exact R1.out) (by omega)).mono ?_
       rintro e wA ⟨rA, rfl, ownA, hbA⟩
       first
         | (have kA : Below V.heap.size V wA := kB.trans (hbA.mono kB.size)
            replace bB := boxed_stp bB hbA
            have oA := owns_base (b' := V.heap.size) ownA kB.size)
         | (have kA : Below V.heap.size V wA := ⟨hbA.os, hbA.tape, hbA.output, hbA.size, hbA.block⟩
            have oA := owns_base (b' := V.heap.size) ownA (Nat.le_refl _))
       clear ownA hbA
       obtain ⟨aA, nA, cA, rfl⟩ := owns_slice oA
       have x0 := (q1.stp kA).cell0; have x1 := (q1.stp kA).cell1)
    | (go_at_call 29
       refine (in_any ag gone.length cg _).mono ?_
       rintro e wB ⟨rfl, hwB⟩
       first
         | (have hbB : Below wA.heap.size wA wB := by rw [← hwB]; exact (Below.refl _ _).alloc (Nat.le_refl _) _
            have bB : Boxed wB wA.heap.size 22 (.slice ag gone.length cg) := by rw [← hwB]; exact Boxed.new _ _ _
            have kB := kA.trans (hbB.mono kA.size)
            replace oA := owns_below oA hbB
            clear hbB)
         | (have kB : Below V.heap.size V wB := by rw [← hwB]; exact ((Below.refl V.heap.size V).drew).alloc (Nat.le_refl _) _
            have bB : Boxed wB V.heap.size 22 (.slice ag gone.length cg) := by rw [← hwB]; exact Boxed.new V.drew _ _)
       clear hwB
       have y0 := (q1.stp kB).cell0; have y1 := (q1.stp kB).cell1)
    | (go_at_call 37
       refine (DelIn_any _ _ _ live gone V.heap.size _ (by exact oA) HWf.out hl hgl HSr.out (by exact bB) (by first | exact S1.out.below kA | exact S1.out.below kB) (fun b o n c e hn => Nat.lt_of_lt_of_le (HLow.out b o n c e hn) (Nat.le_of_lt ltB)) (by first | exact kA.size | exact kB.size)).mono ?_
       rintro e wC ⟨aC, cC, rfl, rC, hbC⟩
       first
         | (have kC : Below V.heap.size V wC := kA.trans hbC)
         | (have kC : Below V.heap.size V wC := kB.trans hbC)
       have u0 := (q1.stp kC).cell0; have u1 := (q1.stp kC).cell1
       have rG := S1.out.below kC)
    | (go_at_call 36
       refine (Make_none _ _ gone (Rv.left live gone) day wC rG rC K1.out K2.out HBd.out.1 K3.out HBd.out.2).mono ?_
       rintro e wD ⟨rfl, hbD⟩
       have kD : Below V.heap.size V wD := kC.trans (hbD.mono kC.size)
       have v0 := (q1.stp kD).cell0; have v1 := (q1.stp kD).cell1
       have zD := z1.stp kD
       have t0 := zD.cell0; have t1 := zD.cell1; have t2 := zD.free 0; have t3 := zD.free 1)
    | fail)
  all_goals
    go_wp2_with fail
    have hzz := (zD.set0 (.int .i64 0)).set1 (.slice none 0 0)
    have hBD := hB1.trans (kD.mono hB1.size)
    refine bodyPost_ret (casc_tmp rfl rfl hzz) rfl ?_
    exact ⟨rfl, (hBD.setCell (by rw [HB.out]; simp) _).setCell (by rw [HB.out]; simp) _⟩

set_option maxRecDepth 100000 in
set_option maxHeartbeats 8000000 in
theorem Day_some (vl vg : Value) (live gone : List Int) (day : Int) (ls : List Sm.Sv) (w : World) (h : Row .i64 w vl live) (hg : Row .i64 w vg gone) (hl : live.length ≤ 1000000) (hgl : gone.length ≤ 1000000) (hok : Rv.okay live gone) (hbd : Cm.dated day ∧ Cm.build day 16 0 gone (Rv.left live gone) = some ls) :
    Calls Try.prog 21 #[.agg #[vl, vg], .int .i64 day] w fun e w' => ∃ a c, e = .returned (.tuple #[.agg #[.int .i64 day, .slice a ls.length c], .int .i64 0]) ∧ Svs w' (.slice a ls.length c) ls ∧ Below w.heap.size w w' := by
  have hwf := h.wf
  have hlow := hg.low
  obtain ⟨al, cl, rfl⟩ := h.shape live.length rfl
  obtain ⟨ag, cg, rfl⟩ := hg.shape gone.length rfl
  obtain ⟨B, hB⟩ : ∃ B, w.heap.size = B := ⟨_, rfl⟩
  have q0 := Duo.new w 24 (.slice al live.length cl) (.slice ag gone.length cg)
  rw [hB] at q0 hlow
  have z0 := Duo.new' (w.alloc (.cells #[.slice al live.length cl, .slice ag gone.length cg] 24)) 35 (.int .i64 0) (.slice none 0 0) (B + 1) (by simp [hB])
  replace q0 := q0.alloc (.cells #[.int .i64 0, .slice none 0 0] 35)
  have hb0 := ((Below.refl w.heap.size w).alloc (Nat.le_refl _) (.cells #[.slice al live.length cl, .slice ag gone.length cg] 24)).alloc (by simp) (.cells #[.int .i64 0, .slice none 0 0] 35)
  have r0 := (h.alloc (.cells #[.slice al live.length cl, .slice ag gone.length cg] 24)).alloc (.cells #[.int .i64 0, .slice none 0 0] 35)
  have s0 := (hg.alloc (.cells #[.slice al live.length cl, .slice ag gone.length cg] 24)).alloc (.cells #[.int .i64 0, .slice none 0 0] 35)
  have HB := Lib.hid hB
  have R0 := Lib.hid r0; have S0 := Lib.hid s0; have HWf := Lib.hid hwf; have HLow := Lib.hid hlow
  clear h hg r0 s0 hB hwf hlow
  have c0 := q0.cell0; have c1 := q0.cell1
  have hck := Rv.chk_okay hok
  obtain ⟨k1, k2, k3⟩ := Rv.left_ok hok
  have K1 := Lib.hid k1; have K2 := Lib.hid k2; have K3 := Lib.hid k3; have HOk := Lib.hid hok; have HC := Lib.hid hck; have HBd := Lib.hid hbd
  have hsr := hok.1.2.1.2
  have HSr := Lib.hid hsr
  clear hck k1 k2 k3 hok hbd hsr
  go_enter Try.func21, Try.ntmps21
  go_wp2_with fail
  (try rw [HB.out])
  go_wp2_with fail
  refine (RCheck_any _ _ live gone _ R0.out S0.out hl hgl).mono ?_; rintro e V ⟨rfl, hb1⟩
  rw [HC.out]
  have hB1 := hb0.trans (hb1.mono hb0.size)
  have q1 := q0.stp hb1
  have z1 := z0.stp hb1
  have R1 := Lib.hid (R0.out.below hb1); have S1 := Lib.hid (S0.out.below hb1)
  clear hb1 c0 c1 hb0 q0 z0
  have c0 := q1.cell0; have c1 := q1.cell1; have ltB := q1.lt; have ltZ := z1.lt
  have f0 := z1.free 0; have f1 := z1.free 1; have d0 := z1.cell0; have d1 := z1.cell1
  have nBZ : ¬ B = B + 1 := by omega
  have nZB : ¬ B + 1 = B := by omega
  go_wp2_with fail
  go_region_held3 (fun w' => w'.cell? ⟨B, 0, none⟩ = some (.slice al live.length cl) ∧ w'.cell? ⟨B, 1, none⟩ = some (.slice ag gone.length cg))
    (first | go_keep | (refine ⟨?_, ?_⟩ <;> assumption))
    (first
    | (go_at_call 38
       refine (Clone64_any _ live _ (by first | exact R1.out.below kB | exact R1.out) (by omega)).mono ?_
       rintro e wA ⟨rA, rfl, ownA, hbA⟩
       first
         | (have kA : Below V.heap.size V wA := kB.trans (hbA.mono kB.size)
            replace bB := boxed_stp bB hbA
            have oA := owns_base (b' := V.heap.size) ownA kB.size)
         | (have kA : Below V.heap.size V wA := ⟨hbA.os, hbA.tape, hbA.output, hbA.size, hbA.block⟩
            have oA := owns_base (b' := V.heap.size) ownA (Nat.le_refl _))
       clear ownA hbA
       obtain ⟨aA, nA, cA, rfl⟩ := owns_slice oA
       have x0 := (q1.stp kA).cell0; have x1 := (q1.stp kA).cell1)
    | (go_at_call 29
       refine (in_any ag gone.length cg _).mono ?_
       rintro e wB ⟨rfl, hwB⟩
       first
         | (have hbB : Below wA.heap.size wA wB := by rw [← hwB]; exact (Below.refl _ _).alloc (Nat.le_refl _) _
            have bB : Boxed wB wA.heap.size 22 (.slice ag gone.length cg) := by rw [← hwB]; exact Boxed.new _ _ _
            have kB := kA.trans (hbB.mono kA.size)
            replace oA := owns_below oA hbB
            clear hbB)
         | (have kB : Below V.heap.size V wB := by rw [← hwB]; exact ((Below.refl V.heap.size V).drew).alloc (Nat.le_refl _) _
            have bB : Boxed wB V.heap.size 22 (.slice ag gone.length cg) := by rw [← hwB]; exact Boxed.new V.drew _ _)
       clear hwB
       have y0 := (q1.stp kB).cell0; have y1 := (q1.stp kB).cell1)
    | (go_at_call 37
       refine (DelIn_any _ _ _ live gone V.heap.size _ (by exact oA) HWf.out hl hgl HSr.out (by exact bB) (by first | exact S1.out.below kA | exact S1.out.below kB) (fun b o n c e hn => Nat.lt_of_lt_of_le (HLow.out b o n c e hn) (Nat.le_of_lt ltB)) (by first | exact kA.size | exact kB.size)).mono ?_
       rintro e wC ⟨aC, cC, rfl, rC, hbC⟩
       first
         | (have kC : Below V.heap.size V wC := kA.trans hbC)
         | (have kC : Below V.heap.size V wC := kB.trans hbC)
       have u0 := (q1.stp kC).cell0; have u1 := (q1.stp kC).cell1
       have rG := S1.out.below kC)
    | (go_at_call 36
       refine (Make_some _ _ gone (Rv.left live gone) day ls wC rG rC K1.out K2.out HBd.out.1 K3.out HBd.out.2).mono ?_
       rintro e wD ⟨aD, cD, rfl, sD, pD, hbD⟩
       have kD : Below V.heap.size V wD := kC.trans (hbD.mono kC.size)
       have v0 := (q1.stp kD).cell0; have v1 := (q1.stp kD).cell1
       have zD := z1.stp kD
       have t0 := zD.cell0; have t1 := zD.cell1; have t2 := zD.free 0; have t3 := zD.free 1)
    | fail)
  all_goals
    go_wp2_with fail
    have hzz := (zD.set0 (.int .i64 day)).set1 (.slice aD ls.length cD)
    have hBD := hB1.trans (kD.mono hB1.size)
    refine bodyPost_ret (casc_tmp rfl rfl hzz) rfl ?_
    exact ⟨aD, cD, rfl, ((sD.aside pD (p := ⟨B + 1, 0, none⟩) (Nat.lt_of_lt_of_le ltZ kC.size) _).1.aside (sD.aside pD (p := ⟨B + 1, 0, none⟩) (Nat.lt_of_lt_of_le ltZ kC.size) _).2 (p := ⟨B + 1, 1, none⟩) (Nat.lt_of_lt_of_le ltZ kC.size) _).1, (hBD.setCell (by rw [HB.out]; simp) _).setCell (by rw [HB.out]; simp) _⟩
end Go.Proofs.Ytconpdliadhahaa
end

section
namespace Go.Proofs.Ytconpdliadhahaa
open Go.RowKit

/-- None of the first k is it. -/
def NotYet (l : List Int) (n : Int) (k : Nat) : Prop := ∀ i, i < k → l[i]?.getD 0 ≠ n
theorem notYet_all {l : List Int} {n : Int} (h : NotYet l n l.length) : n ∉ l := fun hm => by
  obtain ⟨i, hi, rfl⟩ := List.getElem_of_mem hm
  have := h i hi
  rw [List.getElem?_eq_getElem hi] at this
  exact this rfl
theorem mem_at {l : List Int} {n : Int} {k : Nat} (hk : k < l.length) (h : l[k]?.getD 0 = n) : n ∈ l := by
  rw [List.getElem?_eq_getElem hk] at h
  rw [← h]; exact List.getElem_mem hk

set_option maxRecDepth 100000 in
set_option maxHeartbeats 1000000 in
theorem RHas_any (v : Value) (l : List Int) (n : Int) (w : World) (h : Row .i64 w v l) (hl : l.length ≤ 1000000) :
    Calls Try.prog 24 #[v, .int .i64 n] w fun e w' => e = .returned (.bool (decide (n ∈ l))) ∧ w = w' := by
  obtain ⟨a, cap, rfl⟩ := h.shape l.length rfl
  have H := Lib.hid h
  clear h
  go_enter Try.func24, Try.ntmps24
  go_wp2_with fail
  go_loop [5] (fun i => ∃ k : Nat, i = .int .i64 k ∧ k ≤ l.length ∧ NotYet l n k) (fun i => l.length - (intOf i).toNat)
  case atStart => exact ⟨0, rfl, Nat.zero_le _, fun i hi => absurd hi (Nat.not_lt_zero _)⟩
  case round =>
    obtain ⟨k, rfl, hk, hN⟩ := hrel
    have HN := Lib.hid hN
    clear hN
    have k0 : (0 : Int) ≤ (k : Int) := by omega
    have e1 : IntKind.i64.wrap ((k : Int) + 1) = (k : Int) + 1 := IntWalk.i64_in _ (by omega)
    by_cases hlt : k < l.length
    · obtain ⟨_, _, e', _, _, _, _, h5⟩ := H.out
      cases e'
      obtain ⟨b0, o0, rfl, hb0, hc0⟩ := h5 (by rintro rfl; simp at hlt)
      have hck := hc0 k hlt
      obtain ⟨x, hx⟩ : ∃ x, l[k]?.getD 0 = x := ⟨_, rfl⟩
      rw [hx] at hck
      have HX := Lib.hid hx
      have k1 : (k : Int) < (l.length : Int) := by omega
      clear hc0 h5 hx
      by_cases hxn : x = n
      · subst hxn
        have hm := Lib.hid (mem_at hlt HX.out)
        go_wp2_with fail
        go_ret
        exact ⟨ret_bool (decide_eq_true hm.out).symm, rfl⟩
      · go_wp2_with fail
        go_round
        case rel =>
          refine ⟨k + 1, by go_num, by omega, fun i hi => ?_⟩
          rcases Nat.lt_or_ge i k with h | h
          · exact HN.out i h
          · obtain rfl : i = k := by omega
            rw [HX.out]; exact hxn
        case measure => simp [intOf]; omega
    · obtain rfl : k = l.length := by omega
      go_wp2_with fail
      go_ret
      exact ⟨ret_bool (decide_eq_false (notYet_all HN.out)).symm, rfl⟩

/-- The first k are the same. -/
def SameTo (a b : List Int) (k : Nat) : Prop := ∀ i, i < k → a[i]?.getD 0 = b[i]?.getD 0
theorem sameTo_all {a b : List Int} (hl : a.length = b.length) (h : SameTo a b a.length) : a = b := by
  apply List.ext_getElem hl
  intro i h1 h2
  have := h i h1
  rw [List.getElem?_eq_getElem h1, List.getElem?_eq_getElem h2] at this
  exact this

set_option maxRecDepth 100000 in
set_option maxHeartbeats 1000000 in
theorem RInts_any (v u : Value) (l m : List Int) (w : World) (h1 : Row .i64 w v l) (h2 : Row .i64 w u m) (hn : l.length ≤ 1000000) (hm : m.length ≤ 1000000) :
    Calls Try.prog 25 #[v, u] w fun e w' => e = .returned (.bool (decide (l = m))) ∧ Below w.heap.size w w' := by
  obtain ⟨a1, c1, rfl, hl1, hm1, -, -, hr1⟩ := h1
  obtain ⟨a2, c2, rfl, hl2, hm2, -, -, hr2⟩ := h2
  have HR1 := Lib.hid hr1; have HR2 := Lib.hid hr2
  clear hr1 hr2
  unfold maxLen at hm1 hm2
  by_cases hlen : l.length = m.length
  · have hlen' : (l.length : Int) = (m.length : Int) := by omega
    obtain ⟨N, hN⟩ : ∃ N, m.length = N := ⟨_, rfl⟩
    rw [hN] at hlen' hm hl2
    have hNl : l.length = N := by omega
    have HL := Lib.hid hlen; have HNm := Lib.hid hN; have HNl := Lib.hid hNl
    rw [hN, hNl]
    rw [hNl] at hn hl1
    clear hlen hN hlen' hNl
    go_enter Try.func25, Try.ntmps25
    go_wp2_with fail
    go_loopw [5] (fun i wr => ∃ k : Nat, k ≤ N ∧ i = .int .i64 k ∧ SameTo l m k ∧ Below w.heap.size w wr) (fun i _ => N - (intOf i).toNat)
    case atStart => exact ⟨0, Nat.zero_le _, rfl, fun i hi => absurd hi (Nat.not_lt_zero _), Below.refl _ _⟩
    case round =>
      obtain ⟨k, hk, rfl, hS, hB⟩ := hrel
      have HS := Lib.hid hS
      clear hS
      have e1 : IntKind.i64.wrap ((k : Int) + 1) = (k : Int) + 1 := IntWalk.i64_in _ (by omega)
      by_cases hlt : k < N
      · obtain ⟨b1, o1, rfl, hb1, hc1⟩ := HR1.out (by rintro rfl; have := HNl.out; simp at this; omega)
        obtain ⟨b2, o2, rfl, hb2, hc2⟩ := HR2.out (by rintro rfl; have := HNm.out; simp at this; omega)
        have g1 := (hB.cell (p := ⟨b1, o1 + k, none⟩) hb1).trans (hc1 k (by have := HNl.out; omega))
        have g2 := (hB.cell (p := ⟨b2, o2 + k, none⟩) hb2).trans (hc2 k (by have := HNm.out; omega))
        obtain ⟨x, hx⟩ : ∃ x, l[k]?.getD 0 = x := ⟨_, rfl⟩
        obtain ⟨y, hy⟩ : ∃ y, m[k]?.getD 0 = y := ⟨_, rfl⟩
        rw [hx] at g1
        rw [hy] at g2
        have HX := Lib.hid hx; have HY := Lib.hid hy
        have k1 : (k : Int) < (N : Int) := by omega
        have k0 : (0 : Int) ≤ (k : Int) := by omega
        clear hc1 hc2 hx hy
        by_cases hxy : x = y
        · subst hxy
          go_wp2_with fail
          go_region
          all_goals
            go_wp2_with fail
            go_roundw
            case rel =>
              refine ⟨k + 1, by omega, by go_num, fun i hi => ?_, hB.drew⟩
              rcases Nat.lt_or_ge i k with h | h
              · exact HS.out i h
              · obtain rfl : i = k := by omega
                rw [HX.out, HY.out]
            case measure => simp [intOf]; omega
        · have hne : ¬ l = m := fun e => hxy (by rw [← HX.out, ← HY.out, e])
          have HNe := Lib.hid hne
          clear hne
          go_wp2_with fail
          go_region
          all_goals
            go_wp2_with fail
            go_ret
            exact ⟨ret_bool (decide_eq_false HNe.out).symm, hB.drew⟩
      · obtain rfl : k = N := by omega
        have heq : l = m := sameTo_all HL.out (by rw [HNl.out]; exact HS.out)
        have HEq := Lib.hid heq
        clear heq
        go_wp2_with fail
        go_ret
        exact ⟨ret_bool (decide_eq_true HEq.out).symm, hB⟩
  · have hlen' : ¬ (l.length : Int) = (m.length : Int) := by omega
    have hne : ¬ l = m := fun e => hlen (by rw [e])
    have HNe := Lib.hid hne
    clear hne
    go_enter Try.func25, Try.ntmps25
    go_wp2_with fail
    go_ret
    exact ⟨ret_bool (decide_eq_false HNe.out).symm, Below.refl _ _⟩

set_option maxHeartbeats 400000 in
theorem RFew_any (ll lg : Nat) (al ag : Option Addr) (cl cg : Nat) (w : World) :
    Calls Try.prog 10 #[.agg #[.slice al ll cl, .slice ag lg cg]] w fun e w' => e = .returned (.bool (decide (ll ≤ 300) && decide (lg ≤ 300))) ∧ Below w.heap.size w w' := by
  by_cases h1 : ll ≤ 300
  · have h1' : (ll : Int) ≤ 300 := by omega
    by_cases h2 : lg ≤ 300
    · have h2' : (lg : Int) ≤ 300 := by omega
      go_enter Try.func10, Try.ntmps10
      go_wp2
      go_ret
      exact ⟨ret_bool (by first | rfl | simp [h1, h2] | (simp [h1, h2]; omega)), (Below.refl _ _).alloc (Nat.le_refl _) _⟩
    · have h2' : ¬ (lg : Int) ≤ 300 := by omega
      go_enter Try.func10, Try.ntmps10
      go_wp2
      go_ret
      exact ⟨ret_bool (by first | rfl | simp [h1, h2] | (simp [h1, h2]; omega)), (Below.refl _ _).alloc (Nat.le_refl _) _⟩
  · have h1' : ¬ (ll : Int) ≤ 300 := by omega
    go_enter Try.func10, Try.ntmps10
    go_wp2
    go_ret
    exact ⟨ret_bool (by first | rfl | simp [h1] | (simp [h1]; omega)), (Below.refl _ _).alloc (Nat.le_refl _) _⟩
set_option maxHeartbeats 400000 in
theorem LFew_any (ll lg : Nat) (al ag : Option Addr) (cl cg : Nat) (w : World) :
    Calls Try.prog 20 #[.agg #[.slice al ll cl, .slice ag lg cg]] w fun e w' => e = .returned (.bool (decide (ll ≤ 40) && decide (lg ≤ 40))) ∧ Below w.heap.size w w' := by
  by_cases h1 : ll ≤ 40
  · have h1' : (ll : Int) ≤ 40 := by omega
    by_cases h2 : lg ≤ 40
    · have h2' : (lg : Int) ≤ 40 := by omega
      go_enter Try.func20, Try.ntmps20
      go_wp2
      go_ret
      exact ⟨ret_bool (by first | rfl | simp [h1, h2] | (simp [h1, h2]; omega)), (Below.refl _ _).alloc (Nat.le_refl _) _⟩
    · have h2' : ¬ (lg : Int) ≤ 40 := by omega
      go_enter Try.func20, Try.ntmps20
      go_wp2
      go_ret
      exact ⟨ret_bool (by first | rfl | simp [h1, h2] | (simp [h1, h2]; omega)), (Below.refl _ _).alloc (Nat.le_refl _) _⟩
  · have h1' : ¬ (ll : Int) ≤ 40 := by omega
    go_enter Try.func20, Try.ntmps20
    go_wp2
    go_ret
    exact ⟨ret_bool (by first | rfl | simp [h1] | (simp [h1]; omega)), (Below.refl _ _).alloc (Nat.le_refl _) _⟩

set_option maxRecDepth 100000 in
set_option maxHeartbeats 1000000 in
theorem RSame_any (v1 v2 u1 u2 : Value) (l1 l2 m1 m2 : List Int) (w : World) (h1 : Row .i64 w v1 l1) (h2 : Row .i64 w v2 l2) (k1 : Row .i64 w u1 m1) (k2 : Row .i64 w u2 m2) (n1 : l1.length ≤ 1000000) (n2 : l2.length ≤ 1000000) (n3 : m1.length ≤ 1000000) (n4 : m2.length ≤ 1000000) :
    Calls Try.prog 19 #[.agg #[v1, v2], .agg #[u1, u2]] w fun e w' => e = .returned (.bool (decide (l1 = m1) && decide (l2 = m2))) ∧ Below w.heap.size w w' := by
  obtain ⟨a1, c1, rfl⟩ := h1.shape l1.length rfl
  obtain ⟨a2, c2, rfl⟩ := h2.shape l2.length rfl
  obtain ⟨a3, c3, rfl⟩ := k1.shape m1.length rfl
  obtain ⟨a4, c4, rfl⟩ := k2.shape m2.length rfl
  obtain ⟨W, hW⟩ : ∃ W, (w.alloc (.cells #[.slice a1 l1.length c1, .slice a2 l2.length c2] 24)).alloc (.cells #[.slice a3 m1.length c3, .slice a4 m2.length c4] 24) = W := ⟨_, rfl⟩
  have hb0 : Below w.heap.size w W := by rw [← hW]; exact ((Below.refl w.heap.size w).alloc (Nat.le_refl _) _).alloc (by simp) _
  obtain ⟨B, hB⟩ : ∃ B, w.heap.size = B := ⟨_, rfl⟩
  have q1 : Duo W B 24 (.slice a1 l1.length c1) (.slice a2 l2.length c2) := by rw [← hW, ← hB]; exact (Duo.new w 24 _ _).alloc _
  have q2 : Duo W (B + 1) 24 (.slice a3 m1.length c3) (.slice a4 m2.length c4) := by rw [← hW]; exact Duo.new' _ _ _ _ _ (by simp [hB])
  have R1 := Lib.hid (h1.below hb0); have R2 := Lib.hid (h2.below hb0); have R3 := Lib.hid (k1.below hb0); have R4 := Lib.hid (k2.below hb0)
  have HW := Lib.hid hW; have HB := Lib.hid hB
  clear h1 h2 k1 k2 hW hB
  obtain ⟨x, hx⟩ : ∃ x, decide (l1 = m1) = x := ⟨_, rfl⟩
  obtain ⟨y, hy⟩ : ∃ y, decide (l2 = m2) = y := ⟨_, rfl⟩
  rw [hx, hy]
  have HX := Lib.hid hx; have HY := Lib.hid hy
  clear hx hy
  have c0 := q1.cell0; have d0 := q2.cell0
  cases x with
  | false =>
    go_enter Try.func19, Try.ntmps19
    go_wp2_with fail
    (try rw [HW.out])
    (try rw [HB.out])
    go_wp2_with fail
    refine (RInts_any _ _ l1 m1 W R1.out R3.out n1 n3).mono ?_; rintro e w1 ⟨rfl, hb1⟩
    rw [HX.out]
    have hB1 := hb0.trans (hb1.mono hb0.size)
    clear hb1 c0 d0
    go_wp2_with fail
    go_ret
    exact ⟨rfl, hB1⟩
  | true =>
    go_enter Try.func19, Try.ntmps19
    go_wp2_with fail
    (try rw [HW.out])
    (try rw [HB.out])
    go_wp2_with fail
    refine (RInts_any _ _ l1 m1 W R1.out R3.out n1 n3).mono ?_; rintro e w1 ⟨rfl, hb1⟩
    rw [HX.out]
    have hB1 := hb0.trans (hb1.mono hb0.size)
    have r2 := R2.out.below hb1; have r4 := R4.out.below hb1
    have R2' := Lib.hid r2; have R4' := Lib.hid r4
    have c1 := (q1.stp hb1).cell1; have d1 := (q2.stp hb1).cell1
    clear hb1 c0 d0 r2 r4
    go_wp2_with fail
    refine (RInts_any _ _ l2 m2 w1 R2'.out R4'.out n2 n4).mono ?_; rintro e w2 ⟨rfl, hb2⟩
    rw [HY.out]
    have hB2 := hB1.trans (hb2.mono hB1.size)
    clear hb2 c1 d1
    go_wp2_with fail
    go_ret
    exact ⟨ret_bool (by simp), hB2⟩
end Go.Proofs.Ytconpdliadhahaa
end

section
namespace Go.Proofs.Ytconpdliadhahaa
open Go.RowKit

theorem Add_is (vl vg : Value) (live gone : List Int) (n : Int) (E : Int) (L G : List Int) (x y : Nat) (w : World) (h : Row .i64 w vl live) (hg : Row .i64 w vg gone) (hl : live.length ≤ 1000000) (hgl : gone.length ≤ 1000000) (hn : (Lit.int .i64 n).wf = true)
    (hE : Rv.addE live gone n = E) (hL : Rv.addR live gone n = (L, G)) (hx : L.length = x) (hy : G.length = y) :
    Calls Try.prog 11 #[.agg #[vl, vg], .int .i64 n] w fun e w' => (∃ a1 c1 a2 c2, e = .returned (.tuple #[.agg #[.slice a1 x c1, .slice a2 y c2], .int .i64 E]) ∧ Row .i64 w' (.slice a1 x c1) L ∧ Row .i64 w' (.slice a2 y c2) G) ∧ Below w.heap.size w w' := by
  have := Add_rv vl vg live gone n w h hg hl hgl hn
  rw [hE, hL] at this
  unfold RevsOut at this
  simp only [hx, hy] at this
  exact this
theorem Rev_is (vl vg : Value) (live gone : List Int) (n : Int) (E : Int) (L G : List Int) (x y : Nat) (w : World) (h : Row .i64 w vl live) (hg : Row .i64 w vg gone) (hl : live.length ≤ 1000000) (hgl : gone.length ≤ 1000000) (hn : (Lit.int .i64 n).wf = true)
    (hE : Rv.revE live gone n = E) (hL : Rv.revR live gone n = (L, G)) (hx : L.length = x) (hy : G.length = y) :
    Calls Try.prog 13 #[.agg #[vl, vg], .int .i64 n] w fun e w' => (∃ a1 c1 a2 c2, e = .returned (.tuple #[.agg #[.slice a1 x c1, .slice a2 y c2], .int .i64 E]) ∧ Row .i64 w' (.slice a1 x c1) L ∧ Row .i64 w' (.slice a2 y c2) G) ∧ Below w.heap.size w w' := by
  have := Revoke_rv vl vg live gone n w h hg hl hgl hn
  rw [hE, hL] at this
  unfold RevsOut at this
  simp only [hx, hy] at this
  exact this
/-- A row of numbers does not lie in a box of slices. -/
theorem Row.off_duo {W : World} {R : Nat} {t : TypeId} {a1 a2 : Option Addr} {n1 n2 c1 c2 : Nat} {v : Value} {l : List Int} (h : Row .i64 W v l) (hd : Duo W R t (.slice a1 n1 c1) (.slice a2 n2 c2)) : Off R v := fun b o n c e hn he => by
  obtain ⟨a, cap, e2, _, _, _, _, hc⟩ := h
  rw [e] at e2
  cases e2
  obtain ⟨b2, o2, e3, _, hcell⟩ := hc (by rintro rfl; simp at hn)
  cases e3
  subst he
  have h0 := hcell 0 (by omega)
  simp only [World.cell?, show W.heap[b]? = _ from hd, Nat.add_zero] at h0
  match o, h0 with
  | 0, h0 => simp at h0
  | 1, h0 => simp at h0
  | k + 2, h0 => simp at h0
def liveAt : Nat → List Int
  | 0 => []
  | 1 => [9]
  | 2 => [3, 9]
  | _ => [3, 5, 9]
def liveN : Nat → Int
  | 0 => 9
  | 1 => 3
  | _ => 5
theorem liveAt_len (k : Nat) (hk : k ≤ 3) : (liveAt k).length = k := by
  match k, hk with
  | 0, _ => rfl
  | 1, _ => rfl
  | 2, _ => rfl
  | 3, _ => rfl
theorem liveAt_next (k : Nat) (hk : k < 3) : Rv.addE (liveAt k) [] (liveN k) = 0 ∧ Rv.addR (liveAt k) [] (liveN k) = (liveAt (k + 1), []) := by
  match k, hk with
  | 0, _ => decide
  | 1, _ => decide
  | 2, _ => decide
theorem liveN_at (k : Nat) (hk : k < 3) : ([9, 3, 5] : List Int)[k]?.getD 0 = liveN k ∧ (Lit.int .i64 (liveN k)).wf = true := by
  match k, hk with
  | 0, _ => decide
  | 1, _ => decide
  | 2, _ => decide
theorem live_day : ∃ ls, Rv.okay [3, 5, 9] [5] ∧ Cm.dated 1 ∧ Cm.build 1 16 0 [5] (Rv.left [3, 5, 9] [5]) = some ls := by
  have h : (Cm.build 1 16 0 [5] (Rv.left [3, 5, 9] [5])).isSome = true := by decide +kernel
  obtain ⟨ls, hl⟩ := Option.isSome_iff_exists.1 h
  exact ⟨ls, by decide, by decide, hl⟩
theorem live_has {ls : List Sm.Sv} (h : Cm.build 1 16 0 [5] (Rv.left [3, 5, 9] [5]) = some ls) : Cm.has 1 ls 5 = true ∧ Cm.has 1 ls 3 = false ∧ Cm.has 1 ls 9 = false ∧ ls.length ≤ 16 := by
  have hd : Rv.day [3, 5, 9] [5] 1 = some ls := by unfold Rv.day; rw [if_pos ⟨by decide, by decide⟩]; exact h
  obtain ⟨-, -, hg, -, h1, h2⟩ := Rv.day_has hd
  exact ⟨h1 5 (by simp), h2 3 (by simp) (by simp), h2 9 (by simp) (by simp), hg.1⟩
theorem live_codes : Rv.revE [3, 5, 9] [] 5 = 0 ∧ Rv.revR [3, 5, 9] [] 5 = ([3, 5, 9], [5]) ∧ Rv.revE [3, 5, 9] [5] 5 = 270 ∧ Rv.revR [3, 5, 9] [5] 5 = ([], []) ∧ Rv.revE [3, 5, 9] [5] 4 = 131 ∧ Rv.revR [3, 5, 9] [5] 4 = ([], []) ∧
    Rv.addE [3, 5, 9] [5] 3 = 221 ∧ Rv.addR [3, 5, 9] [5] 3 = ([], []) ∧ Rv.chk [3, 5, 9] [5] = 0 ∧ Rv.chk [] [1] = 1 := by decide
end Go.Proofs.Ytconpdliadhahaa
end

section
namespace Go.Proofs.Ytconpdliadhahaa
open Go.RowKit

set_option maxRecDepth 100000 in
set_option maxHeartbeats 8000000 in
theorem live27_true (w : World) : Calls Try.prog 9 #[] w fun e w' => e = .returned (.bool true) ∧ Below w.heap.size w w' := by
  obtain ⟨ls, lo, ld, lb⟩ := live_day
  obtain ⟨lh5, lh3, lh9, ll⟩ := live_has lb
  obtain ⟨m1, m2, m3, m4, m5, m6, m7, m8, m9, m10⟩ := live_codes
  have LO := Lib.hid lo; have LD := Lib.hid ld; have LB := Lib.hid lb; have LH5 := Lib.hid lh5; have LH3 := Lib.hid lh3; have LH9 := Lib.hid lh9; have LL := Lib.hid ll
  have M1 := Lib.hid m1; have M2 := Lib.hid m2; have M3 := Lib.hid m3; have M4 := Lib.hid m4; have M5 := Lib.hid m5; have M6 := Lib.hid m6; have M7 := Lib.hid m7; have M8 := Lib.hid m8; have M9 := Lib.hid m9; have M10 := Lib.hid m10
  clear lo ld lb lh5 lh3 lh9 ll m1 m2 m3 m4 m5 m6 m7 m8 m9 m10
  obtain ⟨Rb, hRb⟩ : ∃ Rb, w.heap.size = Rb := ⟨_, rfl⟩
  obtain ⟨W, hW⟩ : ∃ W, (w.alloc (.cells #[.slice none 0 0, .slice none 0 0] 24)).alloc (.cells #[.int .i64 9, .int .i64 3, .int .i64 5] 3) = W := ⟨_, rfl⟩
  have hB : Below w.heap.size w W := by rw [← hW]; exact ((Below.refl w.heap.size w).alloc (Nat.le_refl _) _).alloc (by simp) _
  have q0 : Duo W Rb 24 (.slice none 0 0) (.slice none 0 0) := by rw [← hW, ← hRb]; exact (Duo.new w 24 _ _).alloc _
  obtain ⟨Lb, hLb⟩ : ∃ Lb, Rb + 1 = Lb := ⟨_, rfl⟩
  have rl : Row .i64 W (.slice (some ⟨Lb, 0, none⟩) 3 3) [9, 3, 5] := by
    rw [← hLb]
    rw [← hW]
    have := Row.lit .i64 (w.alloc (.cells #[.slice none 0 0, .slice none 0 0] 24)) 3 [9, 3, 5] (by unfold maxLen; simp) (by decide)
    simpa [hRb] using this
  have HLb := Lib.hid hLb; have lRL : ¬ Lb = Rb := by omega
  have lLR : ¬ Rb = Lb := by omega
  have HW := Lib.hid hW; have HRb := Lib.hid hRb; have RL := Lib.hid rl
  clear hW hRb rl hLb
  go_enter Try.func9, Try.ntmps9
  go_wp2_with fail
  rw [HW.out]
  (try rw [HRb.out])
  (try rw [HLb.out])
  go_loopw [3, 4, 5] (fun i _ _ wr => ∃ (k : Nat) (v1 v2 : Value), i = .int .i64 k ∧ k ≤ 3 ∧ Duo wr Rb 24 v1 v2 ∧ Row .i64 wr v1 (liveAt k) ∧ Row .i64 wr v2 [] ∧ Row .i64 wr (.slice (some ⟨Lb, 0, none⟩) 3 3) [9, 3, 5] ∧ Below w.heap.size w wr) (fun i _ _ _ => 3 - (intOf i).toNat)
  case atStart => exact ⟨0, _, _, rfl, by omega, q0, Row.nil _ _, Row.nil _ _, RL.out, hB⟩
  case round =>
    obtain ⟨k, v1, v2, rfl, hk, hd, r1, r2, rl, hb⟩ := hrel
    clear q0 hB
    obtain ⟨a1, c1, rfl⟩ := r1.shape k (liveAt_len k hk)
    obtain ⟨a2, c2, rfl⟩ := r2.shape 0 rfl
    have k0 : (0 : Int) ≤ (k : Int) := by omega
    have e1 : IntKind.i64.wrap ((k : Int) + 1) = (k : Int) + 1 := IntWalk.i64_in _ (by omega)
    have c0 := hd.cell0; have d0 := hd.cell1; have ltR := hd.lt
    by_cases hlt : k < 3
    · have k1 : (k : Int) < 3 := by omega
      obtain ⟨x1, x2⟩ := liveAt_next k hlt
      obtain ⟨y1, y2⟩ := liveN_at k hlt
      obtain ⟨_, _, e', _, _, _, _, h5⟩ := rl
      cases e'
      obtain ⟨b0, o0, e', hb0, hc0⟩ := h5 (by simp)
      cases e'
      have hck := hc0 k (by simpa using hlt)
      rw [y1] at hck
      simp only [Nat.zero_add] at hck
      obtain ⟨n, hn⟩ : ∃ n, liveN k = n := ⟨_, rfl⟩
      rw [hn] at hck x1 x2 y2
      have X1 := Lib.hid x1; have X2 := Lib.hid x2; have Y2 := Lib.hid y2; have Hd := Lib.hid hd; have R1 := Lib.hid r1; have R2 := Lib.hid r2; have Hb := Lib.hid hb
      have rl : Row .i64 wr (.slice (some ⟨Lb, 0, none⟩) 3 3) [9, 3, 5] := ⟨_, 3, rfl, by simp, by unfold maxLen; simp, by simp, by decide, fun _ => ⟨_, _, rfl, hb0, hc0⟩⟩
      have Rl := Lib.hid rl
      have nR1 : ¬ Rb = wr.heap.size := by omega
      have nR2 : ¬ wr.heap.size = Rb := by omega
      have nL1 : ¬ Lb = wr.heap.size := by have : Lb < wr.heap.size := hb0; omega
      have nL2 : ¬ wr.heap.size = Lb := fun h => nL1 h.symm
      have ltL : Lb < wr.heap.size := hb0
      clear hc0 h5 hn x1 x2 y1 y2 hd r1 r2 hb rl
      go_wp2_with fail
      go_region_held3 (fun w' => w'.cell? ⟨Rb, 0, none⟩ = some (.slice a1 k c1) ∧ w'.cell? ⟨Rb, 1, none⟩ = some (.slice a2 0 c2) ∧ w'.cell? ⟨Lb, k, none⟩ = some (.int .i64 n))
        (first | go_keep | (refine ⟨?_, ?_, ?_⟩ <;> assumption) | trivial | (go_simp; done) | (refine ⟨?_, ?_, ?_⟩ <;> (first | assumption | trivial | (go_simp; done) | (go_simp; assumption))))
        (first
        | (go_at_call 11
           refine (Add_is _ _ (liveAt k) [] n 0 (liveAt (k + 1)) [] (k + 1) 0 _ (by first | exact R1.out | exact (R1.out.alloc _)) (by first | exact R2.out | exact (R2.out.alloc _)) (by rw [liveAt_len k hk]; omega) (by simp) Y2.out X1.out X2.out (liveAt_len (k + 1) hlt) rfl).mono ?_
           rintro e w2 ⟨⟨a3, c3, a4, c4, rfl, r3, r4⟩, hb2⟩
           first
             | (have hW2 : Below wr.heap.size wr w2 := bel_stp (bel_drew (Below.refl wr.heap.size wr)) hb2)
             | (have hW2 : Below wr.heap.size wr w2 := bel_stp (bel_drew (bel_alloc (Below.refl wr.heap.size wr) _)) hb2)
           have d2 := Hd.out.stp hW2
           have x0 := d2.cell0; have x1 := d2.cell1; have l2 := Rl.out.below hW2
           have x2 : w2.cell? ⟨Lb, k, none⟩ = some (.int .i64 n) := (hW2.cell (p := ⟨Lb, k, none⟩) hb0).trans hck
           have lt2 := d2.lt
           have nW1 : ¬ Rb = w2.heap.size := by omega
           have nW2 : ¬ w2.heap.size = Rb := by omega
           have lr2 := hb0
           have nX2 : ¬ Lb = w2.heap.size := by have := hW2.size; omega
           have nX3 : ¬ w2.heap.size = Lb := fun h => nX2 h.symm
           have ltX : Lb < w2.heap.size := by have := hW2.size; omega
           first | (have zz : Duo w2 wr.heap.size 24 (.slice none 0 0) (.slice none 0 0) := ?_; rotate_left; (focus (refine Duo.stp ?_ hb2; refine Duo.drew ?_; refine Duo.new' _ _ _ _ _ ?_; rfl)); have z0 := zz.cell0; have z1 := zz.cell1; have z2 := zz.free 0; have z3 := zz.free 1) | skip)
        | fail)
      all_goals
        clear c0 d0 ltR k0 k1 nR1 nR2 nL1 nL2 ltL x0 x1 x2 lt2 nW1 nW2 lr2 nX2 nX3 ltX d2 l2 hck
        first
        | (have nx := (zz.set0 (.slice a3 (k + 1) c3)).set1 (.slice a4 0 c4)
           have o3 := r3.off_duo zz
           have o4 := r4.off_duo zz
           have hx := bel_set (bel_set hW2 (p := ⟨wr.heap.size, 0, none⟩) (Nat.le_refl _) (.slice a3 (k + 1) c3)) (p := ⟨wr.heap.size, 1, none⟩) (Nat.le_refl _) (.slice a4 0 c4)
           replace r3 := (Row.aside r3 (p := ⟨wr.heap.size, 0, none⟩) o3 (.slice a3 (k + 1) c3)).aside (p := ⟨wr.heap.size, 1, none⟩) o3 (.slice a4 0 c4)
           replace r4 := (Row.aside r4 (p := ⟨wr.heap.size, 0, none⟩) o4 (.slice a3 (k + 1) c3)).aside (p := ⟨wr.heap.size, 1, none⟩) o4 (.slice a4 0 c4)
           have hle : wr.heap.size ≤ wr.heap.size := Nat.le_refl _
           clear zz z0 z1 z2 z3 hb2 hW2 o3 o4
           have dx := Hd.out.stp hx
           have lx := Rl.out.below hx
           have bx := bel_stp Hb.out hx
           clear hx
           have ltR := Hd.out.lt
           generalize hX : World.setCell (World.setCell w2 ⟨wr.heap.size, 0, none⟩ (.slice a3 (k + 1) c3)) ⟨wr.heap.size, 1, none⟩ (.slice a4 0 c4) = X at *
           generalize hg : wr.heap.size = g at *
           clear hX hg)
        | (have nx := Duo.new w2 24 (.slice a3 (k + 1) c3) (.slice a4 0 c4)
           have hx := bel_alloc hW2 (.cells #[.slice a3 (k + 1) c3, .slice a4 0 c4] 24)
           replace r3 := r3.alloc (.cells #[.slice a3 (k + 1) c3, .slice a4 0 c4] 24)
           replace r4 := r4.alloc (.cells #[.slice a3 (k + 1) c3, .slice a4 0 c4] 24)
           have ltR : Rb < w2.heap.size := Nat.lt_of_lt_of_le Hd.out.lt hW2.size
           clear hb2 hW2
           have dx := Hd.out.stp hx
           have lx := Rl.out.below hx
           have bx := bel_stp Hb.out hx
           clear hx
           generalize hX : World.alloc w2 (.cells #[.slice a3 (k + 1) c3, .slice a4 0 c4] 24) = X at *
           generalize hg : w2.heap.size = g at *
           clear hX hg)
        have c0 := nx.cell0; have c1 := nx.cell1; have ltg := nx.lt
        have d0 := dx.cell0; have d1 := dx.cell1; have ltx := dx.lt; have fr0 := dx.free 0; have fr1 := dx.free 1
        have nG1 : ¬ Rb = g := by omega
        have nG2 : ¬ g = Rb := by omega
        have R3 := Lib.hid r3; have R4 := Lib.hid r4; have Dx := Lib.hid dx; have Lx := Lib.hid lx; have Bx := Lib.hid bx
        clear r3 r4 dx lx bx nx
        go_wp2_with fail
        go_roundw
        case rel =>
          have o3 := R3.out.off_duo Dx.out
          have o4 := R4.out.off_duo Dx.out
          exact ⟨k + 1, _, _, by go_num, by omega, (Dx.out.set0 _).set1 _, (Row.aside R3.out (p := ⟨Rb, 0, none⟩) o3 _).aside (p := ⟨Rb, 1, none⟩) o3 _, (Row.aside R4.out (p := ⟨Rb, 0, none⟩) o4 _).aside (p := ⟨Rb, 1, none⟩) o4 _, (Row.aside Lx.out (p := ⟨Rb, 0, none⟩) (Lx.out.off_duo Dx.out) _).aside (p := ⟨Rb, 1, none⟩) (Lx.out.off_duo Dx.out) _, bel_set (bel_set Bx.out (p := ⟨Rb, 0, none⟩) (by have := HRb.out; show w.heap.size ≤ Rb; omega) _) (p := ⟨Rb, 1, none⟩) (by have := HRb.out; show w.heap.size ≤ Rb; omega) _⟩
        case measure => simp [intOf]; omega
    · obtain rfl : k = 3 := by omega
      clear hlt c0 d0 ltR k0 e1 rl hk
      have r1 : Row .i64 wr (.slice a1 3 c1) [3, 5, 9] := r1

      have hb0 := hb
      clear hb
      have c0_hd := hd.cell0
      have c1_hd := hd.cell1
      have lt_hd := hd.lt
      go_wp2_with fail
      refine (Rev_is _ _ [3, 5, 9] [] 5 0 [3, 5, 9] [5] 3 1 _ r1 r2 (by simp) (by simp) (by decide) M1.out M2.out rfl rfl).mono ?_; rintro e w1 ⟨⟨a3, c3, a4, c4, rfl, x1, x2⟩, hb⟩
      clear c0_hd c1_hd lt_hd
      replace hd := hd.stp hb
      replace r1 := r1.stp hb
      replace r2 := r2.stp hb
      replace hb0 := bel_stp hb0 hb
      clear hb
      clear hd r1 r2
      have bX := Duo.new w1 24 (.slice a3 3 c3) (.slice a4 1 c4)
      have c0_bX := bX.cell0
      have c1_bX := bX.cell1
      have lt_bX := bX.lt
      go_wp2_with fail
      refine (Rev_is _ _ [3, 5, 9] [5] 5 270 [] [] 0 0 _ (x1.alloc _) (x2.alloc _) (by simp) (by simp) (by decide) M3.out M4.out rfl rfl).mono ?_; rintro e w2 ⟨⟨a5, c5, a6, c6, rfl, _, _⟩, hb⟩
      clear c0_bX c1_bX lt_bX
      replace hb0 := bel_stp (bel_alloc hb0 _) hb
      replace x1 := (x1.alloc _).stp hb
      replace x2 := (x2.alloc _).stp hb
      replace bX := bX.stp hb
      clear hb
      have c0_bX := bX.cell0
      have c1_bX := bX.cell1
      have lt_bX := bX.lt
      go_wp2_with fail
      refine (Rev_is _ _ [3, 5, 9] [5] 4 131 [] [] 0 0 _ (x1.alloc _) (x2.alloc _) (by simp) (by simp) (by decide) M5.out M6.out rfl rfl).mono ?_; rintro e w3 ⟨⟨a7, c7, a8, c8, rfl, _, _⟩, hb⟩
      clear c0_bX c1_bX lt_bX
      replace hb0 := bel_stp (bel_alloc hb0 _) hb
      replace x1 := (x1.alloc _).stp hb
      replace x2 := (x2.alloc _).stp hb
      replace bX := (bX.alloc _).stp hb
      clear hb
      have c0_bX := bX.cell0
      have c1_bX := bX.cell1
      have lt_bX := bX.lt
      go_wp2_with fail
      refine (Add_is _ _ [3, 5, 9] [5] 3 221 [] [] 0 0 _ (x1.alloc _) (x2.alloc _) (by simp) (by simp) (by decide) M7.out M8.out rfl rfl).mono ?_; rintro e w4 ⟨⟨a9, c9, a10, c10, rfl, _, _⟩, hb⟩
      clear c0_bX c1_bX lt_bX
      replace hb0 := bel_stp (bel_alloc hb0 _) hb
      replace x1 := (x1.alloc _).stp hb
      replace x2 := (x2.alloc _).stp hb
      replace bX := (bX.alloc _).stp hb
      clear hb
      have c0_bX := bX.cell0
      have c1_bX := bX.cell1
      have lt_bX := bX.lt
      go_wp2_with fail
      refine (Day_some _ _ [3, 5, 9] [5] 1 ls _ (x1.alloc _) (x2.alloc _) (by simp) (by simp) LO.out ⟨LD.out, LB.out⟩).mono ?_; rintro e w5 ⟨a11, c11, rfl, sv, hb⟩
      clear c0_bX c1_bX lt_bX
      replace hb0 := bel_stp (bel_alloc hb0 _) hb
      replace x1 := (x1.alloc _).stp hb
      replace x2 := (x2.alloc _).stp hb
      replace bX := (bX.alloc _).stp hb
      clear hb
      have bC := Duo.new w5 35 (.int .i64 1) (.slice a11 ls.length c11)
      have c0_bX := bX.cell0
      have c1_bX := bX.cell1
      have lt_bX := bX.lt
      have c0_bC := bC.cell0
      have c1_bC := bC.cell1
      have lt_bC := bC.lt
      have k1 := (Row.lit .i64 (w5.alloc (.cells #[.int .i64 1, .slice a11 ls.length c11] 35)) 3 [3, 5, 9] (by unfold maxLen; simp) (by decide)).alloc (.cells #[.int .i64 5] 3)
      have k2 := Row.lit .i64 ((w5.alloc (.cells #[.int .i64 1, .slice a11 ls.length c11] 35)).alloc (.cells #[.int .i64 3, .int .i64 5, .int .i64 9] 3)) 3 [5] (by unfold maxLen; simp) (by decide)
      simp only [World.size_alloc] at k1 k2
      go_wp2_with fail
      refine (RSame_any _ _ _ _ [3, 5, 9] [5] [3, 5, 9] [5] _ (((x1.alloc _).alloc _).alloc _) (((x2.alloc _).alloc _).alloc _) (by exact k1) (by exact k2) (by simp) (by simp) (by simp) (by simp)).mono ?_; rintro e w6 ⟨rfl, hb⟩
      clear c0_bX c1_bX lt_bX c0_bC c1_bC lt_bC
      replace hb0 := bel_stp (bel_alloc (bel_alloc (bel_alloc hb0 _) _) _) hb
      replace x1 := (((x1.alloc _).alloc _).alloc _).stp hb
      replace x2 := (((x2.alloc _).alloc _).alloc _).stp hb
      replace bX := (((bX.alloc _).alloc _).alloc _).stp hb
      replace sv := (((sv.alloc _).alloc _).alloc _).stp hb
      replace bC := ((bC.alloc _).alloc _).stp hb
      clear hb
      clear k1 k2
      simp only [decide_true, Bool.and_self]
      have c0_bX := bX.cell0
      have c1_bX := bX.cell1
      have lt_bX := bX.lt
      have c0_bC := bC.cell0
      have c1_bC := bC.cell1
      have lt_bC := bC.lt
      go_wp2_with fail
      refine (RGone_any _ _ [5] 5 _ 3 _ _ rfl x2 (by simp)).mono ?_; rintro e w7 ⟨rfl, hb⟩
      clear c0_bX c1_bX lt_bX c0_bC c1_bC lt_bC
      replace hb0 := bel_stp hb0 hb
      replace x1 := x1.stp hb
      replace x2 := x2.stp hb
      replace bX := bX.stp hb
      replace sv := sv.stp hb
      replace bC := bC.stp hb
      clear hb
      rw [show decide ((5 : Int) ∈ ([5] : List Int)) = true by decide]
      have c0_bX := bX.cell0
      have c1_bX := bX.cell1
      have lt_bX := bX.lt
      have c0_bC := bC.cell0
      have c1_bC := bC.cell1
      have lt_bC := bC.lt
      go_wp2_with fail
      refine (RGone_any _ _ [5] 3 _ 3 _ _ rfl x2 (by simp)).mono ?_; rintro e w8 ⟨rfl, hb⟩
      clear c0_bX c1_bX lt_bX c0_bC c1_bC lt_bC
      replace hb0 := bel_stp hb0 hb
      replace x1 := x1.stp hb
      replace x2 := x2.stp hb
      replace bX := bX.stp hb
      replace sv := sv.stp hb
      replace bC := bC.stp hb
      clear hb
      rw [show decide ((3 : Int) ∈ ([5] : List Int)) = false by decide]
      have c0_bX := bX.cell0
      have c1_bX := bX.cell1
      have lt_bX := bX.lt
      have c0_bC := bC.cell0
      have c1_bC := bC.cell1
      have lt_bC := bC.lt
      go_wp2_with fail
      refine (CHas_any 1 _ ls 5 _ sv (by have := LL.out; omega)).mono ?_; rintro e w9 ⟨rfl, hb⟩
      clear c0_bX c1_bX lt_bX c0_bC c1_bC lt_bC
      replace hb0 := bel_stp hb0 hb
      replace x1 := x1.stp hb
      replace x2 := x2.stp hb
      replace bX := bX.stp hb
      replace sv := sv.stp hb
      replace bC := bC.stp hb
      clear hb
      rw [LH5.out]
      have c0_bX := bX.cell0
      have c1_bX := bX.cell1
      have lt_bX := bX.lt
      have c0_bC := bC.cell0
      have c1_bC := bC.cell1
      have lt_bC := bC.lt
      go_wp2_with fail
      refine (CHas_any 1 _ ls 3 _ sv (by have := LL.out; omega)).mono ?_; rintro e w10 ⟨rfl, hb⟩
      clear c0_bX c1_bX lt_bX c0_bC c1_bC lt_bC
      replace hb0 := bel_stp hb0 hb
      replace x1 := x1.stp hb
      replace x2 := x2.stp hb
      replace bX := bX.stp hb
      replace sv := sv.stp hb
      replace bC := bC.stp hb
      clear hb
      rw [LH3.out]
      have c0_bX := bX.cell0
      have c1_bX := bX.cell1
      have lt_bX := bX.lt
      have c0_bC := bC.cell0
      have c1_bC := bC.cell1
      have lt_bC := bC.lt
      go_wp2_with fail
      refine (CHas_any 1 _ ls 9 _ sv (by have := LL.out; omega)).mono ?_; rintro e w11 ⟨rfl, hb⟩
      clear c0_bX c1_bX lt_bX c0_bC c1_bC lt_bC
      replace hb0 := bel_stp hb0 hb
      replace x1 := x1.stp hb
      replace x2 := x2.stp hb
      replace bX := bX.stp hb
      replace sv := sv.stp hb
      replace bC := bC.stp hb
      clear hb
      rw [LH9.out]
      have c0_bX := bX.cell0
      have c1_bX := bX.cell1
      have lt_bX := bX.lt
      have c0_bC := bC.cell0
      have c1_bC := bC.cell1
      have lt_bC := bC.lt
      go_wp2_with fail
      refine (RCheck_any _ _ [3, 5, 9] [5] _ x1 x2 (by simp) (by simp)).mono ?_; rintro e w12 ⟨rfl, hb⟩
      clear c0_bX c1_bX lt_bX c0_bC c1_bC lt_bC
      replace hb0 := bel_stp hb0 hb
      replace x1 := x1.stp hb
      replace x2 := x2.stp hb
      replace bX := bX.stp hb
      replace sv := sv.stp hb
      replace bC := bC.stp hb
      clear hb
      rw [M9.out]
      have k3 := Row.lit .i64 w12 3 [1] (by unfold maxLen; simp) (by decide)
      go_wp2_with fail
      refine (RCheck_any _ _ [] [1] _ (Row.nil _ _) (by exact k3) (by simp) (by simp)).mono ?_; rintro e w13 ⟨rfl, hb⟩
      replace hb0 := bel_stp (bel_alloc hb0 _) hb
      replace x1 := (x1.alloc _).stp hb
      replace x2 := (x2.alloc _).stp hb
      replace bX := (bX.alloc _).stp hb
      replace sv := (sv.alloc _).stp hb
      replace bC := (bC.alloc _).stp hb
      clear hb
      rw [M10.out]
      go_wp2_with fail
      go_ret
      exact ⟨rfl, hb0⟩
end Go.Proofs.Ytconpdliadhahaa
end

section
namespace Go.Proofs.Ytconpdliadhahaa
open Go.RowKit Go.ChangeShapes Go.WideShapes Go.Joins

/-- A value of what was issued and revoked. -/
def RvV (W : World) (v : Value) (x : List Int × List Int) : Prop := ∃ vl vg, v = .agg #[vl, vg] ∧ Row .i64 W vl x.1 ∧ Row .i64 W vg x.2
set_option maxRecDepth 100000 in
theorem revs_open {H : Type} {enc : TypeId × Value → H} {W : World} {b0 base : Nat} {v : Value} {d : DataW H} {p : List MemPlace} (hv : Value.okWide Try.prog W .any b0 24 v)
    (h : DataW.Trod enc Try.prog W base (fun _ => true) true 24 v d p) : ∃ x : List Int × List Int, RvV W v x := by
  obtain ⟨v0, v1, y0, y1, n, rfl, -, -, t0, t1⟩ := open_agg2 Try.underlying24 (by kernel_rfl) (by kernel_rfl) hv h
  obtain ⟨l0, r0⟩ := row_of_trod Try.underlying22 Try.underlying3 (by kernel_rfl) t0
  obtain ⟨l1, r1⟩ := row_of_trod Try.underlying22 Try.underlying3 (by kernel_rfl) t1
  exact ⟨(l0, l1), v0, v1, rfl, r0, r1⟩
theorem RvV.parts {W : World} {v : Value} {x : List Int × List Int} (h : RvV W v x) : ∃ live gone al cl ag cg, v = .agg #[.slice al live.length cl, .slice ag gone.length cg] ∧ Row .i64 W (.slice al live.length cl) live ∧ Row .i64 W (.slice ag gone.length cg) gone := by
  obtain ⟨vl, vg, rfl, rl, rg⟩ := h
  obtain ⟨al, cl, rfl⟩ := rl.shape x.1.length rfl
  obtain ⟨ag, cg, rfl⟩ := rg.shape x.2.length rfl
  exact ⟨x.1, x.2, al, cl, ag, cg, rfl, rl, rg⟩
theorem Rv.addR_len (live gone : List Int) (n : Int) : (Rv.addR live gone n).1.length ≤ live.length + 1 ∧ (Rv.addR live gone n).2.length ≤ gone.length := by
  unfold Rv.addR; split
  · simp [Rv.ins_length]
  · simp
theorem Rv.revR_len (live gone : List Int) (n : Int) : (Rv.revR live gone n).1.length ≤ live.length ∧ (Rv.revR live gone n).2.length ≤ gone.length + 1 := by
  unfold Rv.revR; split
  · simp [Rv.ins_length]
  · simp
theorem Rv.addR_zero {live gone : List Int} {n : Int} (h : Rv.addE live gone n = 0) : Rv.addR live gone n = (Rv.ins live n, gone) := by unfold Rv.addR; rw [if_pos h]
theorem Rv.addR_not {live gone : List Int} {n : Int} (h : ¬ Rv.addE live gone n = 0) : Rv.addR live gone n = ([], []) := by unfold Rv.addR; rw [if_neg h]
theorem Rv.revR_zero {live gone : List Int} {n : Int} (h : Rv.revE live gone n = 0) : Rv.revR live gone n = (live, Rv.ins gone n) := by unfold Rv.revR; rw [if_pos h]
theorem Rv.revR_not {live gone : List Int} {n : Int} (h : ¬ Rv.revE live gone n = 0) : Rv.revR live gone n = ([], []) := by unfold Rv.revR; rw [if_neg h]
end Go.Proofs.Ytconpdliadhahaa
end
