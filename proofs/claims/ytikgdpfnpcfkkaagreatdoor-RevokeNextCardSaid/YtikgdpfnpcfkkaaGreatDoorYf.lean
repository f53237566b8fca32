/-
  The texts Ve Vf Vw Vg Vh Vi Vj Vk Rg in one. (Merged by wip/lay10m.py.)
-/
import Derived.Test.YtikgdpfnpcfkkaaGreatDoorVd
import Derived.Laws.ResultCell
import Derived.Test.YtikgdpfnpcfkkaaGreatDoorYb
import Derived.Test.YtikgdpfnpcfkkaaGreatDoorYc
import Derived.Deep.RegionHeld3
import Derived.Test.YtikgdpfnpcfkkaaGreatDoorRw
import Derived.Lib.SmallJoins

section
namespace Go.Proofs.YtikgdpfnpcfkkaaGreatDoor
open Go.RowKit

/-- What Add and Revoke hand back: lists and a code. -/
def RevsOut (w w' : World) (e : Ending) (L : List Int × List Int) (E : Int) : Prop :=
  (∃ a1 c1 a2 c2, e = .returned (.tuple #[.agg #[.slice a1 L.1.length c1, .slice a2 L.2.length c2], .int .i64 E]) ∧ Row .i64 w' (.slice a1 L.1.length c1) L.1 ∧ Row .i64 w' (.slice a2 L.2.length c2) L.2) ∧ Below w.heap.size w w'
theorem RevsOut.nil {w w' : World} {E : Int} (h : Below w.heap.size w w') : RevsOut w w' (.returned (.tuple #[.agg #[.slice none 0 0, .slice none 0 0], .int .i64 E])) ([], []) E := ⟨⟨none, 0, none, 0, rfl, Row.nil _ _, Row.nil _ _⟩, h⟩
theorem revs_ret {tmps : Array Value} {W : World} {g : Nat} {fn : Func} {p q : Tmp} (hr : fn.results = #[.cell p 24, .tmp q]) (hp : tmps.getD p undef = .pointer (some ⟨g, 0, none⟩)) {x y : Value} (hd : Duo W g 24 x y) :
    (results fn tmps).run Tryz.prog W = .ok (.tuple #[.agg #[x, y], tmps.getD q undef]) W :=
  results_cell_tmp hr _ _ g _ _ _ _ hp hd Tryz.underlying24 rfl (by kernel_rfl)

set_option maxRecDepth 100000 in
set_option maxHeartbeats 4000000 in
theorem Add_rv (vl vg : Value) (live gone : List Int) (n : Int) (w : World) (h : Row .i64 w vl live) (hg : Row .i64 w vg gone) (hl : live.length ≤ 1000000) (hgl : gone.length ≤ 1000000) (hn : (Lit.int .i64 n).wf = true) :
    Calls Tryz.prog 12 #[.agg #[vl, vg], .int .i64 n] w fun e w' => RevsOut w w' e (Rv.addR live gone n) (Rv.addE live gone n) := by
  obtain ⟨al, cl, rfl⟩ := h.shape live.length rfl
  obtain ⟨ag, cg, rfl⟩ := hg.shape gone.length rfl
  obtain ⟨B, hB⟩ : ∃ B, w.heap.size = B := ⟨_, rfl⟩
  have ol := h.off (g := B) (by omega)
  have og := hg.off (g := B) (by omega)
  have ol2 := h.off (g := B + 1) (by omega)
  have og2 := hg.off (g := B + 1) (by omega)
  have q0 := Duo.new w 24 (.slice al live.length cl) (.slice ag gone.length cg)
  rw [hB] at q0
  have z0 := Duo.new' (w.alloc (.cells #[.slice al live.length cl, .slice ag gone.length cg] 24)) 24 (.slice none 0 0) (.slice none 0 0) (B + 1) (by simp [hB])
  replace q0 := q0.alloc (.cells #[.slice none 0 0, .slice none 0 0] 24)
  have hb0 := ((Below.refl w.heap.size w).alloc (Nat.le_refl _) (.cells #[.slice al live.length cl, .slice ag gone.length cg] 24)).alloc (by simp) (.cells #[.slice none 0 0, .slice none 0 0] 24)
  have r0 := (h.alloc (.cells #[.slice al live.length cl, .slice ag gone.length cg] 24)).alloc (.cells #[.slice none 0 0, .slice none 0 0] 24)
  have s0 := (hg.alloc (.cells #[.slice al live.length cl, .slice ag gone.length cg] 24)).alloc (.cells #[.slice none 0 0, .slice none 0 0] 24)
  have HB := Lib.hid hB
  have R0 := Lib.hid r0; have S0 := Lib.hid s0
  have OL := Lib.hid ol; have OG := Lib.hid og; have OL2 := Lib.hid ol2; have OG2 := Lib.hid og2
  clear h hg r0 s0 hB ol og ol2 og2
  have c0 := q0.cell0; have c1 := q0.cell1
  by_cases hO : Rv.okay live gone
  · have HO := Lib.hid hO; have hck := Rv.chk_okay hO; have HC := Lib.hid hck; clear hck
    by_cases hr : Sm.right n
    · have HR := Lib.hid hr
      by_cases hm : n ∈ live
      · have HM := Lib.hid hm
        have hF1 : Rv.addE live gone n = 221 := by unfold Rv.addE; rw [if_pos hO, if_pos hr, if_pos hm]
        have hF2 : Rv.addR live gone n = ([], []) := by unfold Rv.addR; rw [hF1, if_neg (by decide)]
        have HF1 := Lib.hid hF1; have HF2 := Lib.hid hF2
        clear hF1 hF2
        clear hO hr hm
        go_enter Tryz.func12, Tryz.ntmps12
        go_wp2_with fail
        (try rw [HB.out])
        go_wp2_with fail
        refine (RCheck_any _ _ live gone _ R0.out S0.out hl hgl).mono ?_; rintro e w1 ⟨rfl, hb1⟩
        rw [HC.out]
        have hB1 := hb0.trans (hb1.mono hb0.size)
        have q1 := q0.stp hb1
        have z1 := z0.stp hb1
        have R1 := Lib.hid (R0.out.below hb1); have S1 := Lib.hid (S0.out.below hb1)
        clear hb1 c0 c1
        have c0 := q1.cell0; have c1 := q1.cell1; have ltB := q1.lt; have ltZ := z1.lt
        go_wp2_with fail
        refine (serial_any n _).mono ?_; rintro e w' ⟨rfl, rfl⟩
        rw [decide_eq_true HR.out]
        go_wp2_with fail
        refine (in_any al live.length cl w1).mono ?_; rintro e w2 ⟨rfl, hw⟩
        obtain ⟨D, hD⟩ : ∃ D, w1.heap.size = D := ⟨_, rfl⟩
        have b3 := Boxed.new w1 22 (.slice al live.length cl)
        rw [hw, hD] at b3
        rw [hD]
        have hb : Below w1.heap.size w1 w2 := by rw [← hw]; exact (Below.refl _ _).alloc (Nat.le_refl _) _
        have hB2 := hB1.trans (hb.mono hB1.size)
        have q2 := q1.stp hb; have z2 := z1.stp hb
        have R2 := Lib.hid (R1.out.below hb); have S2 := Lib.hid (S1.out.below hb)
        clear hb c0 c1 ltB ltZ
        have c0 := q2.cell0; have c1 := q2.cell1; have ltB := q2.lt; have ltZ := z2.lt
        clear hw hD
        have hI := in1_any n _ live D w2 b3 R2.out hl HO.out.1.1.2
        rw [decide_eq_true HM.out] at hI
        go_wp2_with fail
        refine hI.mono ?_; rintro e w3 ⟨rfl, hb⟩
        clear hI b3
        have hB3 := hB2.trans (hb.mono hB2.size)
        have q3 := q2.stp hb; have z3 := z2.stp hb
        have R3 := Lib.hid (R2.out.below hb); have S3 := Lib.hid (S2.out.below hb)
        clear hb c0 c1 ltB ltZ
        have c0 := q3.cell0; have c1 := q3.cell1; have ltB := q3.lt; have ltZ := z3.lt
        have f0 := z3.free 0; have f1 := z3.free 1; have d0 := z3.cell0; have d1 := z3.cell1
        go_wp2_with fail
        have hzz := (z3.set0 (.slice none 0 0)).set1 (.slice none 0 0)
        refine bodyPost_ret (revs_ret rfl rfl hzz) rfl ?_
        rw [HF1.out, HF2.out]
        exact RevsOut.nil ((hB3.setCell (by rw [HB.out]; simp) _).setCell (by rw [HB.out]; simp) _)
      · have HM := Lib.hid hm
        by_cases h256 : live.length = 256
        · have h256' : (live.length : Int) = 256 := by omega
          have hF1 : Rv.addE live gone n = 2 := by unfold Rv.addE; rw [if_pos hO, if_pos hr, if_neg hm, if_pos h256]
          have hF2 : Rv.addR live gone n = ([], []) := by unfold Rv.addR; rw [hF1, if_neg (by decide)]
          have HF1 := Lib.hid hF1; have HF2 := Lib.hid hF2
          clear hF1 hF2
          clear hO hr hm h256
          go_enter Tryz.func12, Tryz.ntmps12
          go_wp2_with fail
          (try rw [HB.out])
          go_wp2_with fail
          refine (RCheck_any _ _ live gone _ R0.out S0.out hl hgl).mono ?_; rintro e w1 ⟨rfl, hb1⟩
          rw [HC.out]
          have hB1 := hb0.trans (hb1.mono hb0.size)
          have q1 := q0.stp hb1
          have z1 := z0.stp hb1
          have R1 := Lib.hid (R0.out.below hb1); have S1 := Lib.hid (S0.out.below hb1)
          clear hb1 c0 c1
          have c0 := q1.cell0; have c1 := q1.cell1; have ltB := q1.lt; have ltZ := z1.lt
          go_wp2_with fail
          refine (serial_any n _).mono ?_; rintro e w' ⟨rfl, rfl⟩
          rw [decide_eq_true HR.out]
          go_wp2_with fail
          refine (in_any al live.length cl w1).mono ?_; rintro e w2 ⟨rfl, hw⟩
          obtain ⟨D, hD⟩ : ∃ D, w1.heap.size = D := ⟨_, rfl⟩
          have b3 := Boxed.new w1 22 (.slice al live.length cl)
          rw [hw, hD] at b3
          rw [hD]
          have hb : Below w1.heap.size w1 w2 := by rw [← hw]; exact (Below.refl _ _).alloc (Nat.le_refl _) _
          have hB2 := hB1.trans (hb.mono hB1.size)
          have q2 := q1.stp hb; have z2 := z1.stp hb
          have R2 := Lib.hid (R1.out.below hb); have S2 := Lib.hid (S1.out.below hb)
          clear hb c0 c1 ltB ltZ
          have c0 := q2.cell0; have c1 := q2.cell1; have ltB := q2.lt; have ltZ := z2.lt
          clear hw hD
          have hI := in1_any n _ live D w2 b3 R2.out hl HO.out.1.1.2
          rw [decide_eq_false HM.out] at hI
          go_wp2_with fail
          refine hI.mono ?_; rintro e w3 ⟨rfl, hb⟩
          clear hI b3
          have hB3 := hB2.trans (hb.mono hB2.size)
          have q3 := q2.stp hb; have z3 := z2.stp hb
          have R3 := Lib.hid (R2.out.below hb); have S3 := Lib.hid (S2.out.below hb)
          clear hb c0 c1 ltB ltZ
          have c0 := q3.cell0; have c1 := q3.cell1; have ltB := q3.lt; have ltZ := z3.lt
          have f0 := z3.free 0; have f1 := z3.free 1; have d0 := z3.cell0; have d1 := z3.cell1
          go_wp2_with fail
          have hzz := (z3.set0 (.slice none 0 0)).set1 (.slice none 0 0)
          refine bodyPost_ret (revs_ret rfl rfl hzz) rfl ?_
          rw [HF1.out, HF2.out]
          exact RevsOut.nil ((hB3.setCell (by rw [HB.out]; simp) _).setCell (by rw [HB.out]; simp) _)
        · have h256' : ¬ (live.length : Int) = 256 := by omega
          have hF1 : Rv.addE live gone n = 0 := (Rv.addE_zero _ _ _).2 ⟨hO, hr, hm, h256⟩
          have hF2 : Rv.addR live gone n = (Rv.ins live n, gone) := by unfold Rv.addR; rw [if_pos hF1]
          have HF1 := Lib.hid hF1; have HF2 := Lib.hid hF2
          have hle := hO.2
          clear hF1 hF2 hO hr hm h256
          go_enter Tryz.func12, Tryz.ntmps12
          go_wp2_with fail
          (try rw [HB.out])
          go_wp2_with fail
          refine (RCheck_any _ _ live gone _ R0.out S0.out hl hgl).mono ?_; rintro e w1 ⟨rfl, hb1⟩
          rw [HC.out]
          have hB1 := hb0.trans (hb1.mono hb0.size)
          have q1 := q0.stp hb1
          have z1 := z0.stp hb1
          have R1 := Lib.hid (R0.out.below hb1); have S1 := Lib.hid (S0.out.below hb1)
          clear hb1 c0 c1
          have c0 := q1.cell0; have c1 := q1.cell1; have ltB := q1.lt; have ltZ := z1.lt
          go_wp2_with fail
          refine (serial_any n _).mono ?_; rintro e w' ⟨rfl, rfl⟩
          rw [decide_eq_true HR.out]
          go_wp2_with fail
          refine (in_any al live.length cl w1).mono ?_; rintro e w2 ⟨rfl, hw⟩
          obtain ⟨D, hD⟩ : ∃ D, w1.heap.size = D := ⟨_, rfl⟩
          have b3 := Boxed.new w1 22 (.slice al live.length cl)
          rw [hw, hD] at b3
          rw [hD]
          have hb : Below w1.heap.size w1 w2 := by rw [← hw]; exact (Below.refl _ _).alloc (Nat.le_refl _) _
          have hB2 := hB1.trans (hb.mono hB1.size)
          have q2 := q1.stp hb; have z2 := z1.stp hb
          have R2 := Lib.hid (R1.out.below hb); have S2 := Lib.hid (S1.out.below hb)
          clear hb c0 c1 ltB ltZ
          have c0 := q2.cell0; have c1 := q2.cell1; have ltB := q2.lt; have ltZ := z2.lt
          clear hw hD
          have hI := in1_any n _ live D w2 b3 R2.out hl HO.out.1.1.2
          rw [decide_eq_false HM.out] at hI
          go_wp2_with fail
          refine hI.mono ?_; rintro e w3 ⟨rfl, hb⟩
          clear hI b3
          have hB3 := hB2.trans (hb.mono hB2.size)
          have q3 := q2.stp hb; have z3 := z2.stp hb
          have R3 := Lib.hid (R2.out.below hb); have S3 := Lib.hid (S2.out.below hb)
          clear hb c0 c1 ltB ltZ
          have c0 := q3.cell0; have c1 := q3.cell1; have ltB := q3.lt; have ltZ := z3.lt
          go_wp2_with fail
          have hW := with_any _ live n _ R3.out (by omega) HO.out.1.1.2 hn
          obtain ⟨L, hL⟩ : ∃ L, Rv.ins live n = L := ⟨_, rfl⟩
          rw [hL] at hW
          have HL := Lib.hid hL; clear hL
          refine hW.mono ?_; rintro e w4 ⟨a3, c3, rfl, r3, p3, hb⟩
          have o3 : Off B (.slice a3 L.length c3) := Past.off p3 ltB
          have o4 : Off (B + 1) (.slice a3 L.length c3) := Past.off p3 ltZ
          clear hW
          clear p3
          have hB4 := hB3.trans (hb.mono hB3.size)
          have q4 := q3.stp hb; have z4 := z3.stp hb
          have x2 := S3.out.below hb
          clear hb c0 c1 ltB ltZ
          have c0 := q4.cell0; have c1 := q4.cell1; have f0 := q4.free 0; have f1 := q4.free 1
          have ne : B + 1 ≠ B := by omega
          have zB := z4.other (p := ⟨B, 0, none⟩) (fun e => ne e.symm) (.slice a3 L.length c3)
          have qB := q4.set0 (.slice a3 L.length c3)
          have d0 := qB.cell0; have d1 := qB.cell1; have g0 := z4.free 0; have g1 := z4.free 1; have e0 := zB.cell0; have e1 := zB.cell1; have y0 := z4.cell0; have y1 := z4.cell1
          go_wp2_with fail
          have hzz := (zB.set0 (.slice a3 L.length c3)).set1 (.slice ag gone.length cg)
          refine bodyPost_ret (revs_ret rfl rfl hzz) rfl ?_
          rw [HF1.out, HF2.out, HL.out]
          refine ⟨⟨_, _, _, _, rfl, ?_, ?_⟩, ((hB4.setCell (by rw [HB.out]; simp) _).setCell (by rw [HB.out]; simp) _).setCell (by rw [HB.out]; simp) _⟩
          · exact ((r3.aside (p := ⟨B, 0, none⟩) o3 _).aside (p := ⟨B + 1, 0, none⟩) o4 _).aside (p := ⟨B + 1, 1, none⟩) o4 _
          · exact ((x2.aside (p := ⟨B, 0, none⟩) OG.out _).aside (p := ⟨B + 1, 0, none⟩) OG2.out _).aside (p := ⟨B + 1, 1, none⟩) OG2.out _
    · have HR := Lib.hid hr
      have hF1 : Rv.addE live gone n = 1 := by unfold Rv.addE; rw [if_pos hO, if_neg hr]
      have hF2 : Rv.addR live gone n = ([], []) := by unfold Rv.addR; rw [hF1, if_neg (by decide)]
      have HF1 := Lib.hid hF1; have HF2 := Lib.hid hF2
      clear hF1 hF2
      clear hO hr
      go_enter Tryz.func12, Tryz.ntmps12
      go_wp2_with fail
      (try rw [HB.out])
      go_wp2_with fail
      refine (RCheck_any _ _ live gone _ R0.out S0.out hl hgl).mono ?_; rintro e w1 ⟨rfl, hb1⟩
      rw [HC.out]
      have hB1 := hb0.trans (hb1.mono hb0.size)
      have q1 := q0.stp hb1
      have z1 := z0.stp hb1
      have R1 := Lib.hid (R0.out.below hb1); have S1 := Lib.hid (S0.out.below hb1)
      clear hb1 c0 c1
      have c0 := q1.cell0; have c1 := q1.cell1; have ltB := q1.lt; have ltZ := z1.lt
      go_wp2_with fail
      refine (serial_any n _).mono ?_; rintro e w' ⟨rfl, rfl⟩
      rw [decide_eq_false HR.out]
      have f0 := z1.free 0; have f1 := z1.free 1; have d0 := z1.cell0; have d1 := z1.cell1
      go_wp2_with fail
      have hzz := (z1.set0 (.slice none 0 0)).set1 (.slice none 0 0)
      refine bodyPost_ret (revs_ret rfl rfl hzz) rfl ?_
      rw [HF1.out, HF2.out]
      exact RevsOut.nil ((hB1.setCell (by rw [HB.out]; simp) _).setCell (by rw [HB.out]; simp) _)
  · have hck := Rv.chk_not hO
    have hF1 : Rv.addE live gone n = Rv.chk live gone := by unfold Rv.addE; rw [if_neg hO]
    have hF2 : Rv.addR live gone n = ([], []) := by unfold Rv.addR; rw [hF1, if_neg hck]
    obtain ⟨cc, hcc⟩ : ∃ cc, Rv.chk live gone = cc := ⟨_, rfl⟩
    rw [hcc] at hck hF1
    have HF1 := Lib.hid hF1; have HF2 := Lib.hid hF2; have HC := Lib.hid hcc
    clear hO hF1 hF2 hcc
    go_enter Tryz.func12, Tryz.ntmps12
    go_wp2_with fail
    (try rw [HB.out])
    go_wp2_with fail
    refine (RCheck_any _ _ live gone _ R0.out S0.out hl hgl).mono ?_; rintro e w1 ⟨rfl, hb1⟩
    rw [HC.out]
    have hB1 := hb0.trans (hb1.mono hb0.size)
    have q1 := q0.stp hb1
    have z1 := z0.stp hb1
    have R1 := Lib.hid (R0.out.below hb1); have S1 := Lib.hid (S0.out.below hb1)
    clear hb1 c0 c1
    have c0 := q1.cell0; have c1 := q1.cell1; have ltB := q1.lt; have ltZ := z1.lt
    have f0 := z1.free 0; have f1 := z1.free 1; have d0 := z1.cell0; have d1 := z1.cell1
    go_wp2_with fail
    have hzz := (z1.set0 (.slice none 0 0)).set1 (.slice none 0 0)
    refine bodyPost_ret (revs_ret rfl rfl hzz) rfl ?_
    rw [HF1.out, HF2.out]
    exact RevsOut.nil ((hB1.setCell (by rw [HB.out]; simp) _).setCell (by rw [HB.out]; simp) _)

end Go.Proofs.YtikgdpfnpcfkkaaGreatDoor
end

section
namespace Go.Proofs.YtikgdpfnpcfkkaaGreatDoor
open Go.RowKit

set_option maxRecDepth 100000 in
set_option maxHeartbeats 4000000 in
theorem Revoke_rv (vl vg : Value) (live gone : List Int) (n : Int) (w : World) (h : Row .i64 w vl live) (hg : Row .i64 w vg gone) (hl : live.length ≤ 1000000) (hgl : gone.length ≤ 1000000) (hn : (Lit.int .i64 n).wf = true) :
    Calls Tryz.prog 6 #[.agg #[vl, vg], .int .i64 n] w fun e w' => RevsOut w w' e (Rv.revR live gone n) (Rv.revE live gone n) := by
  obtain ⟨al, cl, rfl⟩ := h.shape live.length rfl
  obtain ⟨ag, cg, rfl⟩ := hg.shape gone.length rfl
  obtain ⟨B, hB⟩ : ∃ B, w.heap.size = B := ⟨_, rfl⟩
  have ol := h.off (g := B) (by omega)
  have og := hg.off (g := B) (by omega)
  have ol2 := h.off (g := B + 1) (by omega)
  have og2 := hg.off (g := B + 1) (by omega)
  have q0 := Duo.new w 24 (.slice al live.length cl) (.slice ag gone.length cg)
  rw [hB] at q0
  have z0 := Duo.new' (w.alloc (.cells #[.slice al live.length cl, .slice ag gone.length cg] 24)) 24 (.slice none 0 0) (.slice none 0 0) (B + 1) (by simp [hB])
  replace q0 := q0.alloc (.cells #[.slice none 0 0, .slice none 0 0] 24)
  have hb0 := ((Below.refl w.heap.size w).alloc (Nat.le_refl _) (.cells #[.slice al live.length cl, .slice ag gone.length cg] 24)).alloc (by simp) (.cells #[.slice none 0 0, .slice none 0 0] 24)
  have r0 := (h.alloc (.cells #[.slice al live.length cl, .slice ag gone.length cg] 24)).alloc (.cells #[.slice none 0 0, .slice none 0 0] 24)
  have s0 := (hg.alloc (.cells #[.slice al live.length cl, .slice ag gone.length cg] 24)).alloc (.cells #[.slice none 0 0, .slice none 0 0] 24)
  have HB := Lib.hid hB
  have R0 := Lib.hid r0; have S0 := Lib.hid s0
  have OL := Lib.hid ol; have OG := Lib.hid og; have OL2 := Lib.hid ol2; have OG2 := Lib.hid og2
  clear h hg r0 s0 hB ol og ol2 og2
  have c0 := q0.cell0; have c1 := q0.cell1
  by_cases hO : Rv.okay live gone
  · have HO := Lib.hid hO; have hck := Rv.chk_okay hO; have HC := Lib.hid hck; clear hck
    by_cases hm : n ∈ live
    · have HM := Lib.hid hm
      by_cases hk : n ∈ gone
      · have HK := Lib.hid hk
        have hF1 : Rv.revE live gone n = 270 := by unfold Rv.revE; rw [if_pos hO, if_pos hm, if_pos hk]
        have hF2 : Rv.revR live gone n = ([], []) := by unfold Rv.revR; rw [hF1, if_neg (by decide)]
        have HF1 := Lib.hid hF1; have HF2 := Lib.hid hF2
        clear hF1 hF2
        clear hO hm hk
        go_enter Tryz.func6, Tryz.ntmps6
        go_wp2_with fail
        (try rw [HB.out])
        go_wp2_with fail
        refine (RCheck_any _ _ live gone _ R0.out S0.out hl hgl).mono ?_; rintro e w1 ⟨rfl, hb1⟩
        rw [HC.out]
        have hB1 := hb0.trans (hb1.mono hb0.size)
        have q1 := q0.stp hb1
        have z1 := z0.stp hb1
        have R1 := Lib.hid (R0.out.below hb1); have S1 := Lib.hid (S0.out.below hb1)
        clear hb1 c0 c1
        have c0 := q1.cell0; have c1 := q1.cell1; have ltB := q1.lt; have ltZ := z1.lt
        go_wp2_with fail
        refine (in_any al live.length cl w1).mono ?_; rintro e w2 ⟨rfl, hw⟩
        obtain ⟨D, hD⟩ : ∃ D, w1.heap.size = D := ⟨_, rfl⟩
        have b3 := Boxed.new w1 22 (.slice al live.length cl)
        rw [hw, hD] at b3
        rw [hD]
        have hb : Below w1.heap.size w1 w2 := by rw [← hw]; exact (Below.refl _ _).alloc (Nat.le_refl _) _
        have hB2 := hB1.trans (hb.mono hB1.size)
        have q2 := q1.stp hb; have z2 := z1.stp hb
        have R2 := Lib.hid (R1.out.below hb); have S2 := Lib.hid (S1.out.below hb)
        clear hb c0 c1 ltB ltZ
        have c0 := q2.cell0; have c1 := q2.cell1; have ltB := q2.lt; have ltZ := z2.lt
        clear hw hD
        have hI := in1_any n _ live D w2 b3 R2.out hl HO.out.1.1.2
        rw [decide_eq_true HM.out] at hI
        go_wp2_with fail
        refine hI.mono ?_; rintro e w3 ⟨rfl, hb⟩
        clear hI b3
        have hB3 := hB2.trans (hb.mono hB2.size)
        have q3 := q2.stp hb; have z3 := z2.stp hb
        have R3 := Lib.hid (R2.out.below hb); have S3 := Lib.hid (S2.out.below hb)
        clear hb c0 c1 ltB ltZ
        have c0 := q3.cell0; have c1 := q3.cell1; have ltB := q3.lt; have ltZ := z3.lt
        go_wp2_with fail
        refine (in_any ag gone.length cg w3).mono ?_; rintro e w4 ⟨rfl, hw⟩
        obtain ⟨D, hD⟩ : ∃ D, w3.heap.size = D := ⟨_, rfl⟩
        have b3 := Boxed.new w3 22 (.slice ag gone.length cg)
        rw [hw, hD] at b3
        rw [hD]
        have hb : Below w3.heap.size w3 w4 := by rw [← hw]; exact (Below.refl _ _).alloc (Nat.le_refl _) _
        have hB4 := hB3.trans (hb.mono hB3.size)
        have q4 := q3.stp hb; have z4 := z3.stp hb
        have R4 := Lib.hid (R3.out.below hb); have S4 := Lib.hid (S3.out.below hb)
        clear hb c0 c1 ltB ltZ
        have c0 := q4.cell0; have c1 := q4.cell1; have ltB := q4.lt; have ltZ := z4.lt
        clear hw hD
        have hI := in1_any n _ gone D w4 b3 S4.out hgl HO.out.1.2.1.2
        rw [decide_eq_true HK.out] at hI
        go_wp2_with fail
        refine hI.mono ?_; rintro e w5 ⟨rfl, hb⟩
        clear hI b3
        have hB5 := hB4.trans (hb.mono hB4.size)
        have q5 := q4.stp hb; have z5 := z4.stp hb
        have R5 := Lib.hid (R4.out.below hb); have S5 := Lib.hid (S4.out.below hb)
        clear hb c0 c1 ltB ltZ
        have c0 := q5.cell0; have c1 := q5.cell1; have ltB := q5.lt; have ltZ := z5.lt
        have f0 := z5.free 0; have f1 := z5.free 1; have d0 := z5.cell0; have d1 := z5.cell1
        go_wp2_with fail
        have hzz := (z5.set0 (.slice none 0 0)).set1 (.slice none 0 0)
        refine bodyPost_ret (revs_ret rfl rfl hzz) rfl ?_
        rw [HF1.out, HF2.out]
        exact RevsOut.nil ((hB5.setCell (by rw [HB.out]; simp) _).setCell (by rw [HB.out]; simp) _)
      · have HK := Lib.hid hk
        have hF1 : Rv.revE live gone n = 0 := (Rv.revE_zero _ _ _).2 ⟨hO, hm, hk⟩
        have hF2 : Rv.revR live gone n = (live, Rv.ins gone n) := by unfold Rv.revR; rw [if_pos hF1]
        have HF1 := Lib.hid hF1; have HF2 := Lib.hid hF2
        have hle : gone.length ≤ 256 := Rv.gone_le hO
        clear hF1 hF2 hO hm hk
        go_enter Tryz.func6, Tryz.ntmps6
        go_wp2_with fail
        (try rw [HB.out])
        go_wp2_with fail
        refine (RCheck_any _ _ live gone _ R0.out S0.out hl hgl).mono ?_; rintro e w1 ⟨rfl, hb1⟩
        rw [HC.out]
        have hB1 := hb0.trans (hb1.mono hb0.size)
        have q1 := q0.stp hb1
        have z1 := z0.stp hb1
        have R1 := Lib.hid (R0.out.below hb1); have S1 := Lib.hid (S0.out.below hb1)
        clear hb1 c0 c1
        have c0 := q1.cell0; have c1 := q1.cell1; have ltB := q1.lt; have ltZ := z1.lt
        go_wp2_with fail
        refine (in_any al live.length cl w1).mono ?_; rintro e w2 ⟨rfl, hw⟩
        obtain ⟨D, hD⟩ : ∃ D, w1.heap.size = D := ⟨_, rfl⟩
        have b3 := Boxed.new w1 22 (.slice al live.length cl)
        rw [hw, hD] at b3
        rw [hD]
        have hb : Below w1.heap.size w1 w2 := by rw [← hw]; exact (Below.refl _ _).alloc (Nat.le_refl _) _
        have hB2 := hB1.trans (hb.mono hB1.size)
        have q2 := q1.stp hb; have z2 := z1.stp hb
        have R2 := Lib.hid (R1.out.below hb); have S2 := Lib.hid (S1.out.below hb)
        clear hb c0 c1 ltB ltZ
        have c0 := q2.cell0; have c1 := q2.cell1; have ltB := q2.lt; have ltZ := z2.lt
        clear hw hD
        have hI := in1_any n _ live D w2 b3 R2.out hl HO.out.1.1.2
        rw [decide_eq_true HM.out] at hI
        go_wp2_with fail
        refine hI.mono ?_; rintro e w3 ⟨rfl, hb⟩
        clear hI b3
        have hB3 := hB2.trans (hb.mono hB2.size)
        have q3 := q2.stp hb; have z3 := z2.stp hb
        have R3 := Lib.hid (R2.out.below hb); have S3 := Lib.hid (S2.out.below hb)
        clear hb c0 c1 ltB ltZ
        have c0 := q3.cell0; have c1 := q3.cell1; have ltB := q3.lt; have ltZ := z3.lt
        go_wp2_with fail
        refine (in_any ag gone.length cg w3).mono ?_; rintro e w4 ⟨rfl, hw⟩
        obtain ⟨D, hD⟩ : ∃ D, w3.heap.size = D := ⟨_, rfl⟩
        have b3 := Boxed.new w3 22 (.slice ag gone.length cg)
        rw [hw, hD] at b3
        rw [hD]
        have hb : Below w3.heap.size w3 w4 := by rw [← hw]; exact (Below.refl _ _).alloc (Nat.le_refl _) _
        have hB4 := hB3.trans (hb.mono hB3.size)
        have q4 := q3.stp hb; have z4 := z3.stp hb
        have R4 := Lib.hid (R3.out.below hb); have S4 := Lib.hid (S3.out.below hb)
        clear hb c0 c1 ltB ltZ
        have c0 := q4.cell0; have c1 := q4.cell1; have ltB := q4.lt; have ltZ := z4.lt
        clear hw hD
        have hI := in1_any n _ gone D w4 b3 S4.out hgl HO.out.1.2.1.2
        rw [decide_eq_false HK.out] at hI
        go_wp2_with fail
        refine hI.mono ?_; rintro e w5 ⟨rfl, hb⟩
        clear hI b3
        have hB5 := hB4.trans (hb.mono hB4.size)
        have q5 := q4.stp hb; have z5 := z4.stp hb
        have R5 := Lib.hid (R4.out.below hb); have S5 := Lib.hid (S4.out.below hb)
        clear hb c0 c1 ltB ltZ
        have c0 := q5.cell0; have c1 := q5.cell1; have ltB := q5.lt; have ltZ := z5.lt
        go_wp2_with fail
        have hW := with_any _ gone n _ S5.out (by omega) HO.out.1.2.1.2 hn
        obtain ⟨L, hL⟩ : ∃ L, Rv.ins gone n = L := ⟨_, rfl⟩
        rw [hL] at hW
        have HL := Lib.hid hL; clear hL
        refine hW.mono ?_; rintro e w6 ⟨a3, c3, rfl, r3, p3, hb⟩
        have o3 : Off B (.slice a3 L.length c3) := Past.off p3 ltB
        have o4 : Off (B + 1) (.slice a3 L.length c3) := Past.off p3 ltZ
        clear hW
        clear p3
        have hB6 := hB5.trans (hb.mono hB5.size)
        have q6 := q5.stp hb; have z6 := z5.stp hb
        have x2 := R5.out.below hb
        clear hb c0 c1 ltB ltZ
        have c0 := q6.cell0; have c1 := q6.cell1; have f0 := q6.free 0; have f1 := q6.free 1
        have ne : B + 1 ≠ B := by omega
        have zB := z6.other (p := ⟨B, 1, none⟩) (fun e => ne e.symm) (.slice a3 L.length c3)
        have qB := q6.set1 (.slice a3 L.length c3)
        have d0 := qB.cell0; have d1 := qB.cell1; have g0 := z6.free 0; have g1 := z6.free 1; have e0 := zB.cell0; have e1 := zB.cell1; have y0 := z6.cell0; have y1 := z6.cell1
        go_wp2_with fail
        have hzz := (zB.set0 (.slice al live.length cl)).set1 (.slice a3 L.length c3)
        refine bodyPost_ret (revs_ret rfl rfl hzz) rfl ?_
        rw [HF1.out, HF2.out, HL.out]
        refine ⟨⟨_, _, _, _, rfl, ?_, ?_⟩, ((hB6.setCell (by rw [HB.out]; simp) _).setCell (by rw [HB.out]; simp) _).setCell (by rw [HB.out]; simp) _⟩
        · exact ((x2.aside (p := ⟨B, 1, none⟩) OL.out _).aside (p := ⟨B + 1, 0, none⟩) OL2.out _).aside (p := ⟨B + 1, 1, none⟩) OL2.out _
        · exact ((r3.aside (p := ⟨B, 1, none⟩) o3 _).aside (p := ⟨B + 1, 0, none⟩) o4 _).aside (p := ⟨B + 1, 1, none⟩) o4 _
    · have HM := Lib.hid hm
      have hF1 : Rv.revE live gone n = 131 := by unfold Rv.revE; rw [if_pos hO, if_neg hm]
      have hF2 : Rv.revR live gone n = ([], []) := by unfold Rv.revR; rw [hF1, if_neg (by decide)]
      have HF1 := Lib.hid hF1; have HF2 := Lib.hid hF2
      clear hF1 hF2
      clear hO hm
      go_enter Tryz.func6, Tryz.ntmps6
      go_wp2_with fail
      (try rw [HB.out])
      go_wp2_with fail
      refine (RCheck_any _ _ live gone _ R0.out S0.out hl hgl).mono ?_; rintro e w1 ⟨rfl, hb1⟩
      rw [HC.out]
      have hB1 := hb0.trans (hb1.mono hb0.size)
      have q1 := q0.stp hb1
      have z1 := z0.stp hb1
      have R1 := Lib.hid (R0.out.below hb1); have S1 := Lib.hid (S0.out.below hb1)
      clear hb1 c0 c1
      have c0 := q1.cell0; have c1 := q1.cell1; have ltB := q1.lt; have ltZ := z1.lt
      go_wp2_with fail
      refine (in_any al live.length cl w1).mono ?_; rintro e w2 ⟨rfl, hw⟩
      obtain ⟨D, hD⟩ : ∃ D, w1.heap.size = D := ⟨_, rfl⟩
      have b3 := Boxed.new w1 22 (.slice al live.length cl)
      rw [hw, hD] at b3
      rw [hD]
      have hb : Below w1.heap.size w1 w2 := by rw [← hw]; exact (Below.refl _ _).alloc (Nat.le_refl _) _
      have hB2 := hB1.trans (hb.mono hB1.size)
      have q2 := q1.stp hb; have z2 := z1.stp hb
      have R2 := Lib.hid (R1.out.below hb); have S2 := Lib.hid (S1.out.below hb)
      clear hb c0 c1 ltB ltZ
      have c0 := q2.cell0; have c1 := q2.cell1; have ltB := q2.lt; have ltZ := z2.lt
      clear hw hD
      have hI := in1_any n _ live D w2 b3 R2.out hl HO.out.1.1.2
      rw [decide_eq_false HM.out] at hI
      go_wp2_with fail
      refine hI.mono ?_; rintro e w3 ⟨rfl, hb⟩
      clear hI b3
      have hB3 := hB2.trans (hb.mono hB2.size)
      have q3 := q2.stp hb; have z3 := z2.stp hb
      have R3 := Lib.hid (R2.out.below hb); have S3 := Lib.hid (S2.out.below hb)
      clear hb c0 c1 ltB ltZ
      have c0 := q3.cell0; have c1 := q3.cell1; have ltB := q3.lt; have ltZ := z3.lt
      have f0 := z3.free 0; have f1 := z3.free 1; have d0 := z3.cell0; have d1 := z3.cell1
      go_wp2_with fail
      have hzz := (z3.set0 (.slice none 0 0)).set1 (.slice none 0 0)
      refine bodyPost_ret (revs_ret rfl rfl hzz) rfl ?_
      rw [HF1.out, HF2.out]
      exact RevsOut.nil ((hB3.setCell (by rw [HB.out]; simp) _).setCell (by rw [HB.out]; simp) _)
  · have hck := Rv.chk_not hO
    have hF1 : Rv.revE live gone n = Rv.chk live gone := by unfold Rv.revE; rw [if_neg hO]
    have hF2 : Rv.revR live gone n = ([], []) := by unfold Rv.revR; rw [hF1, if_neg hck]
    obtain ⟨cc, hcc⟩ : ∃ cc, Rv.chk live gone = cc := ⟨_, rfl⟩
    rw [hcc] at hck hF1
    have HF1 := Lib.hid hF1; have HF2 := Lib.hid hF2; have HC := Lib.hid hcc
    clear hO hF1 hF2 hcc
    go_enter Tryz.func6, Tryz.ntmps6
    go_wp2_with fail
    (try rw [HB.out])
    go_wp2_with fail
    refine (RCheck_any _ _ live gone _ R0.out S0.out hl hgl).mono ?_; rintro e w1 ⟨rfl, hb1⟩
    rw [HC.out]
    have hB1 := hb0.trans (hb1.mono hb0.size)
    have q1 := q0.stp hb1
    have z1 := z0.stp hb1
    have R1 := Lib.hid (R0.out.below hb1); have S1 := Lib.hid (S0.out.below hb1)
    clear hb1 c0 c1
    have c0 := q1.cell0; have c1 := q1.cell1; have ltB := q1.lt; have ltZ := z1.lt
    have f0 := z1.free 0; have f1 := z1.free 1; have d0 := z1.cell0; have d1 := z1.cell1
    go_wp2_with fail
    have hzz := (z1.set0 (.slice none 0 0)).set1 (.slice none 0 0)
    refine bodyPost_ret (revs_ret rfl rfl hzz) rfl ?_
    rw [HF1.out, HF2.out]
    exact RevsOut.nil ((hB1.setCell (by rw [HB.out]; simp) _).setCell (by rw [HB.out]; simp) _)
end Go.Proofs.YtikgdpfnpcfkkaaGreatDoor
end

section
namespace Go.Proofs.YtikgdpfnpcfkkaaGreatDoor
open Go.RowKit

/-- What the closure answers, wherever A holds. -/
def AsksSt (A : World → Prop) (B : Nat) (q : Int → Bool) : Prop :=
  ∀ n W, A W → Calls Tryz.prog 45 #[.int .i64 n, .pointer (some ⟨B, 0, none⟩)] W fun e W' => e = .returned (.bool (!q n)) ∧ Below W.heap.size W W'
set_option maxRecDepth 100000 in
set_option maxHeartbeats 1000000 in
theorem IndexFunc_st (A : World → Prop) (B : Nat) (q : Int → Bool) (vl : Value) (l : List Int) (w : World) (hA : AsksSt A B q) (hS : ∀ W W', A W → Below W.heap.size W W' → A W') (h0 : A w) (h : Row .i64 w vl l) (hl : l.length ≤ 1000000) :
    Calls Tryz.prog 51 #[vl, .func (.func 45) #[] #[.pointer (some ⟨B, 0, none⟩)]] w fun e w' => ∃ r : Int, e = .returned (.int .i64 r) ∧ First q l r ∧ Below w.heap.size w w' := by
  have HA := Lib.hid hA; have HSt := Lib.hid hS
  clear hA hS
  obtain ⟨a, cap, rfl⟩ := h.shape l.length rfl
  have HR := Lib.hid h
  clear h
  go_enter Tryz.func51, Tryz.ntmps51
  go_wp2_with fail
  go_loopw [5, 8] (fun _ i wr => ∃ k : Nat, i = .int .i64 k ∧ k ≤ l.length ∧ (∀ j, j < k → q (l[j]?.getD 0) = true) ∧ Below w.heap.size w wr) (fun _ i _ => l.length - (intOf i).toNat)
  case atStart => exact ⟨0, rfl, Nat.zero_le _, fun j hj => absurd hj (Nat.not_lt_zero _), Below.refl _ _⟩
  case round =>
    obtain ⟨k, rfl, hk, hall, hb⟩ := hrel
    have Hall := Lib.hid hall
    clear hall
    have k0 : (0 : Int) ≤ (k : Int) := by omega
    have e1 : IntKind.i64.wrap ((k : Int) + 1) = (k : Int) + 1 := IntWalk.i64_in _ (by omega)
    by_cases hlt : k < l.length
    · have k1 : (k : Int) < (l.length : Int) := by omega
      have hrw := HR.out.below hb
      obtain ⟨_, _, e', _, _, _, _, h5⟩ := hrw
      cases e'
      obtain ⟨b0, o0, rfl, hb00, hc0⟩ := h5 (by rintro rfl; simp at hlt)
      have hck := hc0 k hlt
      obtain ⟨x, hx⟩ : ∃ x, l[k]?.getD 0 = x := ⟨_, rfl⟩
      rw [hx] at hck
      have HX := Lib.hid hx
      clear hc0 h5 hx
      have hC := HA.out x wr (HSt.out _ _ h0 hb)
      have hbs := hb.size
      cases hqx : q x with
      | true =>
        rw [hqx] at hC
        go_wp2_with fail
        refine hC.mono ?_; rintro e w2 ⟨rfl, hb2⟩
        have hb3 := hb.trans (hb2.mono hbs)
        have HQ := Lib.hid hqx
        clear hC hb2 hqx hck
        go_wp2_with fail
        go_roundw
        case rel =>
          refine ⟨k + 1, by go_num, by omega, fun j hj => ?_, hb3⟩
          rcases Nat.lt_or_ge j k with h | h
          · exact Hall.out j h
          · obtain rfl : j = k := by omega
            rw [HX.out]; exact HQ.out
        case measure => simp [intOf]; omega
      | false =>
        rw [hqx] at hC
        go_wp2_with fail
        refine hC.mono ?_; rintro e w2 ⟨rfl, hb2⟩
        have hb3 := hb.trans (hb2.mono hbs)
        have HQ := Lib.hid hqx
        clear hC hb2 hqx hck
        go_wp2_with fail
        go_ret
        exact ⟨k, rfl, .inr ⟨k, hlt, rfl, by rw [HX.out]; exact HQ.out, Hall.out⟩, hb3⟩
    · obtain rfl : k = l.length := by omega
      go_wp2_with fail
      go_ret
      exact ⟨-1, rfl, .inl ⟨rfl, Hall.out⟩, hb⟩

set_option maxRecDepth 100000 in
set_option maxHeartbeats 2000000 in
theorem DeleteFunc_st (A : World → Prop) (base : Nat) (B : Nat) (q : Int → Bool) (g cap : Nat) (l : List Int) (w : World) (hA : AsksSt A B q) (hS : ∀ W W', A W → Below W.heap.size W W' → A W') (hG : ∀ W o v, A W → A (W.setCell ⟨g, o, none⟩ v)) (h0 : A w) (hbw : base ≤ w.heap.size) (hwf : ∀ x ∈ l, (Lit.int .i64 x).wf = true)
    (h : w.ownsRow base 3 1 (.slice (some ⟨g, 0, none⟩) l.length cap) l.length (l.map (Value.int .i64))) (hl : l.length ≤ 1000000) :
    Calls Tryz.prog 19 #[.slice (some ⟨g, 0, none⟩) l.length cap, .func (.func 45) #[] #[.pointer (some ⟨B, 0, none⟩)]] w fun e w' =>
      e = .returned (.slice (some ⟨g, 0, none⟩) (l.filter q).length cap) ∧ w'.ownsRow base 3 1 (.slice (some ⟨g, 0, none⟩) (l.filter q).length cap) (l.filter q).length ((l.filter q).map (Value.int .i64)) ∧ Below base w w' := by
  have HA := Lib.hid hA; have HSt := Lib.hid hS; have HG := Lib.hid hG
  have hgb : base ≤ g := own_above h rfl
  have hcap : l.length ≤ cap := by
    rcases h.2 with ⟨h1, _⟩ | ⟨_, _, _, h1, _, _, hnc, _⟩
    · cases h1
    · cases h1; exact hnc
  have hrow : Row .i64 w (.slice (some ⟨g, 0, none⟩) l.length cap) l := Row.of_owns h hwf
  have hI := IndexFunc_st A B q _ l w hA hS h0 hrow hl
  have HO := Lib.hid h; have HRo := Lib.hid hrow
  clear hA hrow h hwf hS hG
  go_enter Tryz.func19, Tryz.ntmps19
  go_wp2_with fail
  refine hI.mono ?_; rintro e w1 ⟨r, rfl, hF, hb1⟩
  clear hI
  have hw1 := hb1.mono hbw
  have ha1 := HSt.out _ _ h0 hb1
  have own1 := owns_below HO.out hb1
  rcases hF with ⟨rfl, hall⟩ | ⟨k, hk, rfl, hf, ht⟩
  · have hfil : l.filter q = l := by
      rw [List.filter_eq_self]
      intro x hx
      obtain ⟨i, hi, rfl⟩ := List.getElem_of_mem hx
      have := hall i hi
      rw [List.getElem?_eq_getElem hi] at this; exact this
    have HFil := Lib.hid hfil
    clear hall hfil
    go_wp2_with fail
    go_ret
    rw [HFil.out]
    exact ⟨rfl, own1, hw1⟩
  · have hK := Keeping.start hk hf ht
    have HK := Lib.hid hK
    have e1 : IntKind.i64.wrap ((k : Int) + 1) = (k : Int) + 1 := IntWalk.i64_in _ (by omega)
    have hne : ¬ (k : Int) = -1 := by omega
    clear hf ht hK hb1
    go_wp2_with fail
    go_loopw [5, 6, 7] (fun iv jv _ wr => ∃ (i j : Nat) (R : List Int), iv = .int .i64 i ∧ jv = .int .i64 j ∧ j ≤ l.length ∧ Keeping q l R i j ∧ wr.ownsRow base 3 1 (.slice (some ⟨g, 0, none⟩) l.length cap) l.length (R.map (Value.int .i64)) ∧ Below base w wr ∧ A wr) (fun _ jv _ _ => l.length - (intOf jv).toNat)
    case atStart => exact ⟨k, k + 1, l, rfl, by go_num, by omega, HK.out, own1, hw1, ha1⟩
    case round =>
      obtain ⟨i, j, R, rfl, rfl, hj, hKp, own, hb, ha⟩ := hrel
      clear own1 hw1
      have hij := hKp.lt; have hRl := hKp.len
      have HKp := Lib.hid hKp
      have k0 : (0 : Int) ≤ (j : Int) := by omega
      have k2 : (0 : Int) ≤ (i : Int) := by omega
      have e2 : IntKind.i64.wrap ((j : Int) + 1) = (j : Int) + 1 := IntWalk.i64_in _ (by omega)
      have e3 : IntKind.i64.wrap ((i : Int) + 1) = (i : Int) + 1 := IntWalk.i64_in _ (by omega)
      clear hKp
      by_cases hlt : j < l.length
      · have k1 : (j : Int) < (l.length : Int) := by omega
        have k3 : (i : Int) < (l.length : Int) := by omega
        have hck := owns_cell64 own j (by omega)
        rw [HKp.out.high j (Nat.le_refl _)] at hck
        obtain ⟨x, hx⟩ : ∃ x, l[j]?.getD 0 = x := ⟨_, rfl⟩
        rw [hx] at hck
        have HX := Lib.hid hx
        clear hx
        have hC := HA.out x wr ha
        cases hqx : q x with
        | true =>
          rw [hqx] at hC
          go_wp2_with fail
          refine hC.mono ?_; rintro e w2 ⟨rfl, hb2⟩
          have hb3 := hb.trans (hb2.mono (Nat.le_trans hbw hb.size))
          have ha2 := HSt.out _ _ ha hb2
          have own2 := owns_below own hb2
          have hci := owns_cell64 own2 i (by omega)
          have hfi := owns_free own2 i
          have hK2 := HKp.out.keep hlt (by rw [HX.out]; exact hqx)
          rw [HX.out] at hK2
          have own3 := owns_set own2 i (.int .i64 x)
          rw [← List.map_set] at own3
          have hb4 := hb3.setCell (p := ⟨g, i, none⟩) hgb (.int .i64 x)
          have HK2 := Lib.hid hK2; have HO3 := Lib.hid own3; have HB4 := Lib.hid hb4
          clear hC hb2 hqx hck hK2 own3 own2 hb3 hb4 own
          go_wp2_with fail
          go_roundw
          case rel =>
            (repeat apply Exists.intro)
            refine ⟨?_, rfl⟩
            exact ⟨i + 1, j + 1, R.set i x, by go_num, by go_num, by omega, HK2.out, HO3.out, HB4.out, HG.out _ _ _ ha2⟩
          case measure => simp [intOf]; omega
        | false =>
          rw [hqx] at hC
          go_wp2_with fail
          refine hC.mono ?_; rintro e w2 ⟨rfl, hb2⟩
          have hb3 := hb.trans (hb2.mono (Nat.le_trans hbw hb.size))
          have ha2 := HSt.out _ _ ha hb2
          have own2 := owns_below own hb2
          have hK2 := HKp.out.skip hlt (by rw [HX.out]; exact hqx)
          have HK2 := Lib.hid hK2
          clear hC hb2 hqx hck hK2 own
          go_wp2_with fail
          go_roundw
          case rel =>
            (repeat apply Exists.intro)
            refine ⟨?_, rfl⟩
            exact ⟨i, j + 1, R, rfl, by go_num, by omega, HK2.out, own2, hb3, ha2⟩
          case measure => simp [intOf]; omega
      · obtain rfl : j = l.length := by omega
        have hlow := HKp.out.low
        rw [List.take_length] at hlow
        have hil : (l.filter q).length = i := by rw [← hlow]; simp; omega
        have hcl : ∀ ty, (Builtin.clear_ #[22] ty #[.slice (some ⟨g, i, none⟩) (l.length - i) (cap - i)]).run Tryz.prog wr = .ok (.tuple #[]) (wr.setCells g i (List.replicate (l.length - i) (.int .i64 0))) :=
          fun ty => Lib.run_clear_slice wr 22 3 ty (.int .i64 0) Tryz.underlying22 (fun _ => by kernel_rfl) rfl rfl g i _ _ (by omega) (fun t ht => by rw [owns_cell64 own (i + t) (by omega)]; rfl) (fun t ht => owns_free own (i + t))
        obtain ⟨xs', own2, htk⟩ := owns_setCells (List.replicate (l.length - i) (Value.int .i64 0)) i own
        have hb2 := below_setCells hgb (List.replicate (l.length - i) (Value.int .i64 0)) i hb
        have own3 := owns_take own2 i (by omega)
        rw [htk i (Nat.le_refl _), ← List.map_take, hlow] at own3
        have HO3 := Lib.hid own3; have HB2 := Lib.hid hb2; have HIl := Lib.hid hil
        have k3 : (i : Int) ≤ (l.length : Int) := by omega
        have k4 : (i : Int) ≤ (cap : Int) := by omega
        have k5 : ¬ cap = i := by omega
        clear own own2 own3 htk hlow hb2 hil
        go_wp2_with fail
        go_ret
        rw [HIl.out]
        refine ⟨rfl, ?_, HB2.out⟩
        have := HO3.out
        exact this
set_option maxRecDepth 100000 in
set_option maxHeartbeats 1000000 in
theorem DeleteFunc_none_st (B : Nat) (w : World) :
    Calls Tryz.prog 19 #[.slice none 0 0, .func (.func 45) #[] #[.pointer (some ⟨B, 0, none⟩)]] w fun e w' => e = .returned (.slice none 0 0) ∧ Below w.heap.size w w' := by
  have hI : Calls Tryz.prog 51 #[.slice none 0 0, .func (.func 45) #[] #[.pointer (some ⟨B, 0, none⟩)]] w fun e w' => e = .returned (.int .i64 (-1)) ∧ Below w.heap.size w w' := by
    go_enter Tryz.func51, Tryz.ntmps51
    go_wp2_with fail
    refine wp_loop_rounds 1 ?_
    rw [rounds_succ]
    go_wp2_with fail
    go_ret
    exact ⟨rfl, Below.refl _ _⟩
  go_enter Tryz.func19, Tryz.ntmps19
  go_wp2_with fail
  refine hI.mono ?_; rintro e w1 ⟨rfl, hb1⟩
  go_wp2_with fail
  go_ret
  exact ⟨rfl, hb1⟩

end Go.Proofs.YtikgdpfnpcfkkaaGreatDoor
end

section
namespace Go.Proofs.YtikgdpfnpcfkkaaGreatDoor
open Go.RowKit

theorem Make_none (vi vo : Value) (ins outs : List Int) (day : Int) (w : World) (hi : Row .i64 w vi ins) (ho : Row .i64 w vo outs) (h1 : NumOk ins) (h2 : NumOk outs) (h3 : Cm.dated day) (hdj : Cm.disjoint ins outs) (hb : Cm.build day 16 0 ins outs = none) :
    Calls Tryz.prog 18 #[vi, vo, .int .i64 day] w fun e w' => e = .returned (.tuple #[.agg #[.int .i64 0, .slice none 0 0], .int .i64 2]) ∧ Below w.heap.size w w' := by
  refine (Make_go vi vo ins outs day w hi ho (by have := h1.2; omega) (by have := h2.2; omega) h1 h2 h3 hdj).mono ?_
  rintro e w' (⟨ls, a, c, hl, -⟩ | ⟨-, h⟩)
  · rw [hb] at hl; cases hl
  · exact h
theorem Make_some (vi vo : Value) (ins outs : List Int) (day : Int) (ls : List Sm.Sv) (w : World) (hi : Row .i64 w vi ins) (ho : Row .i64 w vo outs) (h1 : NumOk ins) (h2 : NumOk outs) (h3 : Cm.dated day) (hdj : Cm.disjoint ins outs) (hb : Cm.build day 16 0 ins outs = some ls) :
    Calls Tryz.prog 18 #[vi, vo, .int .i64 day] w fun e w' => ∃ a c, e = .returned (.tuple #[.agg #[.int .i64 day, .slice a ls.length c], .int .i64 0]) ∧ Svs w' (.slice a ls.length c) ls ∧ PastS w.heap.size w' (.slice a ls.length c) ls ∧ Below w.heap.size w w' := by
  refine (Make_go vi vo ins outs day w hi ho (by have := h1.2; omega) (by have := h2.2; omega) h1 h2 h3 hdj).mono ?_
  rintro e w' (⟨ls', a, c, hl, rfl, h⟩ | ⟨hl, -⟩)
  · rw [hb] at hl; cases hl
    exact ⟨a, c, rfl, h⟩
  · rw [hb] at hl; cases hl

/-- What is left. -/
def Rv.left (live gone : List Int) : List Int := live.filter fun n => !decide (n ∈ gone)
theorem Rv.mem_left (live gone : List Int) (x : Int) : x ∈ Rv.left live gone ↔ x ∈ live ∧ x ∉ gone := by simp [Rv.left]
/-- The levels of a day's cascade, if there is one. -/
def Rv.day (live gone : List Int) (day : Int) : Option (List Sm.Sv) := if Rv.okay live gone ∧ Cm.dated day then Cm.build day 16 0 gone (Rv.left live gone) else none
theorem Rv.left_ok {live gone : List Int} (h : Rv.okay live gone) : NumOk gone ∧ NumOk (Rv.left live gone) ∧ Cm.disjoint gone (Rv.left live gone) := by
  refine ⟨⟨h.1.2.1, Rv.gone_le h⟩, ⟨⟨fun x hx => h.1.1.1 x (List.mem_filter.1 hx).1, h.1.1.2.filter _⟩, Nat.le_trans (List.length_filter_le _ _) h.2⟩, fun x hx hm => ?_⟩
  exact ((Rv.mem_left _ _ _).1 hm).2 hx
theorem Rv.day_has {live gone : List Int} {day : Int} {ls : List Sm.Sv} (h : Rv.day live gone day = some ls) : Rv.okay live gone ∧ Cm.dated day ∧ Cm.good day ls ∧ 1 ≤ ls.length ∧ (∀ x ∈ gone, Cm.has day ls x = true) ∧ ∀ x ∈ live, x ∉ gone → Cm.has day ls x = false := by
  unfold Rv.day at h
  by_cases hc : Rv.okay live gone ∧ Cm.dated day
  · rw [if_pos hc] at h
    obtain ⟨k1, k2, k3⟩ := Rv.left_ok hc.1
    have g := Cm.good_build day hc.2 gone _ ls (by have := k1.2; omega) (by have := k2.2; omega) k1.1.1 k2.1.1 h
    have t := Cm.has_build day hc.2 gone _ ls (by have := k1.2; omega) (by have := k2.2; omega) k1.1.1 k2.1.1 k3 h
    exact ⟨hc.1, hc.2, g.1, g.2, t.1, fun x hx hn => t.2 x ((Rv.mem_left _ _ _).2 ⟨hx, hn⟩)⟩
  · rw [if_neg hc] at h; cases h

theorem DelIn_any (D : Nat) (vg r : Value) (live gone : List Int) (base : Nat) (w : World) (own : w.ownsRow base 3 1 r live.length (live.map (Value.int .i64))) (hwf : ∀ x ∈ live, (Lit.int .i64 x).wf = true) (hl : live.length ≤ 1000000) (hgl : gone.length ≤ 1000000) (hs : gone.Pairwise (· < ·))
    (hD : Boxed w D 22 vg) (hg : Row .i64 w vg gone) (hvg : ∀ b o n c, vg = .slice (some ⟨b, o, none⟩) n c → 0 < n → b < base) (hb : base ≤ w.heap.size) :
    Calls Tryz.prog 19 #[r, .func (.func 45) #[] #[.pointer (some ⟨D, 0, none⟩)]] w fun e w' => ∃ a c, e = .returned (.slice a (Rv.left live gone).length c) ∧ Row .i64 w' (.slice a (Rv.left live gone).length c) (Rv.left live gone) ∧ Below base w w' := by
  rcases own.2 with ⟨rfl, h0⟩ | ⟨g, cap, cur, rfl, hbg, hh, hnc, hcm, hcs, ht⟩
  · obtain rfl : live = [] := List.length_eq_zero_iff.1 h0
    refine (DeleteFunc_none_st D w).mono ?_
    rintro e w' ⟨rfl, hb'⟩
    exact ⟨none, 0, rfl, Row.nil _ _, hb'.mono hb⟩
  · have hne : D ≠ g := fun e => boxed_ne hD hh (by decide) e.symm
    have hoff : Off g vg := fun b o n c e hn he => by have := hvg b o n c e hn; omega
    refine (DeleteFunc_st (fun W => Boxed W D 22 vg ∧ Row .i64 W vg gone) base D (fun n => !decide (n ∈ gone)) g cap live w ?_ (fun W W' h hb' => ⟨cboxed_stp h.1 hb', h.2.below hb'⟩)
      (fun W o v h => ⟨boxed_other h.1 hne o v, h.2.aside (p := ⟨g, o, none⟩) hoff v⟩) ⟨hD, hg⟩ hb hwf own hl).mono ?_
    · intro n W h
      have := in1_any n vg gone D W h.1 h.2 hgl hs
      rw [Bool.not_not]
      exact this
    · rintro e w' ⟨rfl, own2, hb'⟩
      refine ⟨_, _, rfl, Row.owned64 (l := Rv.left live gone) own2 (fun x hx => hwf x (List.mem_filter.1 hx).1), hb'⟩
end Go.Proofs.YtikgdpfnpcfkkaaGreatDoor
end

section
namespace Go.Proofs.YtikgdpfnpcfkkaaGreatDoor
open Go.RowKit

theorem casc_tmp {tmps : Array Value} {W : World} {g : Nat} {fn : Func} {p q : Tmp} (hr : fn.results = #[.cell p 32, .tmp q]) (hp : tmps.getD p undef = .pointer (some ⟨g, 0, none⟩)) {x y : Value} (hd : Duo W g 32 x y) :
    (results fn tmps).run Tryz.prog W = .ok (.tuple #[.agg #[x, y], tmps.getD q undef]) W :=
  results_cell_tmp hr _ _ g _ _ _ _ hp hd Tryz.underlying32 rfl (by kernel_rfl)
set_option maxRecDepth 100000 in
set_option maxHeartbeats 8000000 in
theorem Day_not (vl vg : Value) (live gone : List Int) (day : Int) (w : World) (h : Row .i64 w vl live) (hg : Row .i64 w vg gone) (hl : live.length ≤ 1000000) (hgl : gone.length ≤ 1000000) (hno : ¬ Rv.okay live gone) :
    Calls Tryz.prog 7 #[.agg #[vl, vg], .int .i64 day] w fun e w' => (∃ cc : Int, cc ≠ 0 ∧ e = .returned (.tuple #[.agg #[.int .i64 0, .slice none 0 0], .int .i64 cc])) ∧ Below w.heap.size w w' := by
  have hwf := h.wf
  have hlow := hg.low
  obtain ⟨al, cl, rfl⟩ := h.shape live.length rfl
  obtain ⟨ag, cg, rfl⟩ := hg.shape gone.length rfl
  obtain ⟨B, hB⟩ : ∃ B, w.heap.size = B := ⟨_, rfl⟩
  have q0 := Duo.new w 24 (.slice al live.length cl) (.slice ag gone.length cg)
  rw [hB] at q0 hlow
  have z0 := Duo.new' (w.alloc (.cells #[.slice al live.length cl, .slice ag gone.length cg] 24)) 32 (.int .i64 0) (.slice none 0 0) (B + 1) (by simp [hB])
  replace q0 := q0.alloc (.cells #[.int .i64 0, .slice none 0 0] 32)
  have hb0 := ((Below.refl w.heap.size w).alloc (Nat.le_refl _) (.cells #[.slice al live.length cl, .slice ag gone.length cg] 24)).alloc (by simp) (.cells #[.int .i64 0, .slice none 0 0] 32)
  have r0 := (h.alloc (.cells #[.slice al live.length cl, .slice ag gone.length cg] 24)).alloc (.cells #[.int .i64 0, .slice none 0 0] 32)
  have s0 := (hg.alloc (.cells #[.slice al live.length cl, .slice ag gone.length cg] 24)).alloc (.cells #[.int .i64 0, .slice none 0 0] 32)
  have HB := Lib.hid hB
  have R0 := Lib.hid r0; have S0 := Lib.hid s0; have HWf := Lib.hid hwf; have HLow := Lib.hid hlow
  clear h hg r0 s0 hB hwf hlow
  have c0 := q0.cell0; have c1 := q0.cell1
  have hck := Rv.chk_not hno
  obtain ⟨cc, hcc⟩ : ∃ cc, Rv.chk live gone = cc := ⟨_, rfl⟩
  rw [hcc] at hck
  have HC := Lib.hid hcc
  clear hcc hno
  go_enter Tryz.func7, Tryz.ntmps7
  go_wp2_with fail
  (try rw [HB.out])
  go_wp2_with fail
  refine (RCheck_any _ _ live gone _ R0.out S0.out hl hgl).mono ?_; rintro e V ⟨rfl, hb1⟩
  rw [HC.out]
  have hB1 := hb0.trans (hb1.mono hb0.size)
  have q1 := q0.stp hb1
  have z1 := z0.stp hb1
  have R1 := Lib.hid (R0.out.below hb1); have S1 := Lib.hid (S0.out.below hb1)
  clear hb1 c0 c1 hb0 q0 z0
  have c0 := q1.cell0; have c1 := q1.cell1; have ltB := q1.lt; have ltZ := z1.lt
  have f0 := z1.free 0; have f1 := z1.free 1; have d0 := z1.cell0; have d1 := z1.cell1
  go_wp2_with fail
  have hzz := (z1.set0 (.int .i64 0)).set1 (.slice none 0 0)
  refine bodyPost_ret (casc_tmp rfl rfl hzz) rfl ⟨⟨cc, hck, rfl⟩, (hB1.setCell (by rw [HB.out]; simp) _).setCell (by rw [HB.out]; simp) _⟩

set_option maxRecDepth 100000 in
set_option maxHeartbeats 8000000 in
theorem Day_arg (vl vg : Value) (live gone : List Int) (day : Int) (w : World) (h : Row .i64 w vl live) (hg : Row .i64 w vg gone) (hl : live.length ≤ 1000000) (hgl : gone.length ≤ 1000000) (hok : Rv.okay live gone) (hbd : ¬ Cm.dated day) :
    Calls Tryz.prog 7 #[.agg #[vl, vg], .int .i64 day] w fun e w' => e = .returned (.tuple #[.agg #[.int .i64 0, .slice none 0 0], .int .i64 1]) ∧ Below w.heap.size w w' := by
  have hwf := h.wf
  have hlow := hg.low
  obtain ⟨al, cl, rfl⟩ := h.shape live.length rfl
  obtain ⟨ag, cg, rfl⟩ := hg.shape gone.length rfl
  obtain ⟨B, hB⟩ : ∃ B, w.heap.size = B := ⟨_, rfl⟩
  have q0 := Duo.new w 24 (.slice al live.length cl) (.slice ag gone.length cg)
  rw [hB] at q0 hlow
  have z0 := Duo.new' (w.alloc (.cells #[.slice al live.length cl, .slice ag gone.length cg] 24)) 32 (.int .i64 0) (.slice none 0 0) (B + 1) (by simp [hB])
  replace q0 := q0.alloc (.cells #[.int .i64 0, .slice none 0 0] 32)
  have hb0 := ((Below.refl w.heap.size w).alloc (Nat.le_refl _) (.cells #[.slice al live.length cl, .slice ag gone.length cg] 24)).alloc (by simp) (.cells #[.int .i64 0, .slice none 0 0] 32)
  have r0 := (h.alloc (.cells #[.slice al live.length cl, .slice ag gone.length cg] 24)).alloc (.cells #[.int .i64 0, .slice none 0 0] 32)
  have s0 := (hg.alloc (.cells #[.slice al live.length cl, .slice ag gone.length cg] 24)).alloc (.cells #[.int .i64 0, .slice none 0 0] 32)
  have HB := Lib.hid hB
  have R0 := Lib.hid r0; have S0 := Lib.hid s0; have HWf := Lib.hid hwf; have HLow := Lib.hid hlow
  clear h hg r0 s0 hB hwf hlow
  have c0 := q0.cell0; have c1 := q0.cell1
  have hck := Rv.chk_okay hok
  obtain ⟨k1, k2, k3⟩ := Rv.left_ok hok
  have K1 := Lib.hid k1; have K2 := Lib.hid k2; have K3 := Lib.hid k3; have HOk := Lib.hid hok; have HC := Lib.hid hck; have HBd := Lib.hid hbd
  have hsr := hok.1.2.1.2
  have HSr := Lib.hid hsr
  clear hck k1 k2 k3 hok hbd hsr
  go_enter Tryz.func7, Tryz.ntmps7
  go_wp2_with fail
  (try rw [HB.out])
  go_wp2_with fail
  refine (RCheck_any _ _ live gone _ R0.out S0.out hl hgl).mono ?_; rintro e V ⟨rfl, hb1⟩
  rw [HC.out]
  have hB1 := hb0.trans (hb1.mono hb0.size)
  have q1 := q0.stp hb1
  have z1 := z0.stp hb1
  have R1 := Lib.hid (R0.out.below hb1); have S1 := Lib.hid (S0.out.below hb1)
  clear hb1 c0 c1 hb0 q0 z0
  have c0 := q1.cell0; have c1 := q1.cell1; have ltB := q1.lt; have ltZ := z1.lt
  have f0 := z1.free 0; have f1 := z1.free 1; have d0 := z1.cell0; have d1 := z1.cell1
  have nBZ : ¬ B = B + 1 := by omega
  have nZB : ¬ B + 1 = B := by omega
  go_wp2_with fail
  go_region_held3 (fun w' => w'.cell? ⟨B, 0, none⟩ = some (.slice al live.length cl) ∧ w'.cell? ⟨B, 1, none⟩ = some (.slice ag gone.length cg))
    (first | go_keep | (refine ⟨?_, ?_⟩ <;> assumption))
    (first
    | (go_at_call 20
       refine (Clone64_any _ live _ (by first | exact R1.out.below kB | exact R1.out) (by omega)).mono ?_
       rintro e wA ⟨rA, rfl, ownA, hbA⟩
       first
         | (have kA : Below V.heap.size V wA := kB.trans (hbA.mono kB.size)
            replace bB := cboxed_stp bB hbA
            have oA := owns_base (b' := V.heap.size) ownA kB.size)
         | (have kA : Below V.heap.size V wA := ⟨hbA.os, hbA.tape, hbA.output, hbA.size, hbA.block⟩
            have oA := owns_base (b' := V.heap.size) ownA (Nat.le_refl _))
       clear ownA hbA
       obtain ⟨aA, nA, cA, rfl⟩ := owns_slice oA
       have x0 := (q1.stp kA).cell0; have x1 := (q1.stp kA).cell1)
    | (go_at_call 16
       refine (in_any ag gone.length cg _).mono ?_
       rintro e wB ⟨rfl, hwB⟩
       first
         | (have hbB : Below wA.heap.size wA wB := by rw [← hwB]; exact (Below.refl _ _).alloc (Nat.le_refl _) _
            have bB : Boxed wB wA.heap.size 22 (.slice ag gone.length cg) := by rw [← hwB]; exact Boxed.new _ _ _
            have kB := kA.trans (hbB.mono kA.size)
            replace oA := owns_below oA hbB
            clear hbB)
         | (have kB : Below V.heap.size V wB := by rw [← hwB]; exact ((Below.refl V.heap.size V).drew).alloc (Nat.le_refl _) _
            have bB : Boxed wB V.heap.size 22 (.slice ag gone.length cg) := by rw [← hwB]; exact Boxed.new V.drew _ _)
       clear hwB
       have y0 := (q1.stp kB).cell0; have y1 := (q1.stp kB).cell1)
    | (go_at_call 19
       refine (DelIn_any _ _ _ live gone V.heap.size _ (by exact oA) HWf.out hl hgl HSr.out (by exact bB) (by first | exact S1.out.below kA | exact S1.out.below kB) (fun b o n c e hn => Nat.lt_of_lt_of_le (HLow.out b o n c e hn) (Nat.le_of_lt ltB)) (by first | exact kA.size | exact kB.size)).mono ?_
       rintro e wC ⟨aC, cC, rfl, rC, hbC⟩
       first
         | (have kC : Below V.heap.size V wC := kA.trans hbC)
         | (have kC : Below V.heap.size V wC := kB.trans hbC)
       have u0 := (q1.stp kC).cell0; have u1 := (q1.stp kC).cell1
       have rG := S1.out.below kC)
    | (go_at_call 18
       refine (Make_arg _ _ gone (Rv.left live gone) day wC rG rC hgl (by have := K2.out.2; omega) (fun h => HBd.out h.2.2)).mono ?_
       rintro e wD ⟨rfl, hbD⟩
       have kD : Below V.heap.size V wD := kC.trans (hbD.mono kC.size)
       have v0 := (q1.stp kD).cell0; have v1 := (q1.stp kD).cell1
       have zD := z1.stp kD
       have t0 := zD.cell0; have t1 := zD.cell1; have t2 := zD.free 0; have t3 := zD.free 1)
    | fail)
  all_goals
    go_wp2_with fail
    have hzz := (zD.set0 (.int .i64 0)).set1 (.slice none 0 0)
    have hBD := hB1.trans (kD.mono hB1.size)
    refine bodyPost_ret (casc_tmp rfl rfl hzz) rfl ?_
    exact ⟨rfl, (hBD.setCell (by rw [HB.out]; simp) _).setCell (by rw [HB.out]; simp) _⟩

set_option maxRecDepth 100000 in
set_option maxHeartbeats 8000000 in
theorem Day_none (vl vg : Value) (live gone : List Int) (day : Int) (w : World) (h : Row .i64 w vl live) (hg : Row .i64 w vg gone) (hl : live.length ≤ 1000000) (hgl : gone.length ≤ 1000000) (hok : Rv.okay live gone) (hbd : Cm.dated day ∧ Cm.build day 16 0 gone (Rv.left live gone) = none) :
    Calls Tryz.prog 7 #[.agg #[vl, vg], .int .i64 day] w fun e w' => e = .returned (.tuple #[.agg #[.int .i64 0, .slice none 0 0], .int .i64 2]) ∧ Below w.heap.size w w' := by
  have hwf := h.wf
  have hlow := hg.low
  obtain ⟨al, cl, rfl⟩ := h.shape live.length rfl
  obtain ⟨ag, cg, rfl⟩ := hg.shape gone.length rfl
  obtain ⟨B, hB⟩ : ∃ B, w.heap.size = B := ⟨_, rfl⟩
  have q0 := Duo.new w 24 (.slice al live.length cl) (.slice ag gone.length cg)
  rw [hB] at q0 hlow
  have z0 := Duo.new' (w.alloc (.cells #[.slice al live.length cl, .slice ag gone.length cg] 24)) 32 (.int .i64 0) (.slice none 0 0) (B + 1) (by simp [hB])
  replace q0 := q0.alloc (.cells #[.int .i64 0, .slice none 0 0] 32)
  have hb0 := ((Below.refl w.heap.size w).alloc (Nat.le_refl _) (.cells #[.slice al live.length cl, .slice ag gone.length cg] 24)).alloc (by simp) (.cells #[.int .i64 0, .slice none 0 0] 32)
  have r0 := (h.alloc (.cells #[.slice al live.length cl, .slice ag gone.length cg] 24)).alloc (.cells #[.int .i64 0, .slice none 0 0] 32)
  have s0 := (hg.alloc (.cells #[.slice al live.length cl, .slice ag gone.length cg] 24)).alloc (.cells #[.int .i64 0, .slice none 0 0] 32)
  have HB := Lib.hid hB
  have R0 := Lib.hid r0; have S0 := Lib.hid s0; have HWf := Lib.hid hwf; have HLow := Lib.hid hlow
  clear h hg r0 s0 hB hwf hlow
  have c0 := q0.cell0; have c1 := q0.cell1
  have hck := Rv.chk_okay hok
  obtain ⟨k1, k2, k3⟩ := Rv.left_ok hok
  have K1 := Lib.hid k1; have K2 := Lib.hid k2; have K3 := Lib.hid k3; have HOk := Lib.hid hok; have HC := Lib.hid hck; have HBd := Lib.hid hbd
  have hsr := hok.1.2.1.2
  have HSr := Lib.hid hsr
  clear hck k1 k2 k3 hok hbd hsr
  go_enter Tryz.func7, Tryz.ntmps7
  go_wp2_with fail
  (try rw [HB.out])
  go_wp2_with fail
  refine (RCheck_any _ _ live gone _ R0.out S0.out hl hgl).mono ?_; rintro e V ⟨rfl, hb1⟩
  rw [HC.out]
  have hB1 := hb0.trans (hb1.mono hb0.size)
  have q1 := q0.stp hb1
  have z1 := z0.stp hb1
  have R1 := Lib.hid (R0.out.below hb1); have S1 := Lib.hid (S0.out.below hb1)
  clear hb1 c0 c1 hb0 q0 z0
  have c0 := q1.cell0; have c1 := q1.cell1; have ltB := q1.lt; have ltZ := z1.lt
  have f0 := z1.free 0; have f1 := z1.free 1; have d0 := z1.cell0; have d1 := z1.cell1
  have nBZ : ¬ B = B + 1 := by omega
  have nZB : ¬ B + 1 = B := by omega
  go_wp2_with fail
  go_region_held3 (fun w' => w'.cell? ⟨B, 0, none⟩ = some (.slice al live.length cl) ∧ w'.cell? ⟨B, 1, none⟩ = some (.slice ag gone.length cg))
    (first | go_keep | (refine ⟨?_, ?_⟩ <;> assumption))
    (first
    | (go_at_call 20
       refine (Clone64_any _ live _ (by first | exact R1.out.below kB | exact R1.out) (by omega)).mono ?_
       rintro e wA ⟨rA, rfl, ownA, hbA⟩
       first
         | (have kA : Below V.heap.size V wA := kB.trans (hbA.mono kB.size)
            replace bB := cboxed_stp bB hbA
            have oA := owns_base (b' := V.heap.size) ownA kB.size)
         | (have kA : Below V.heap.size V wA := ⟨hbA.os, hbA.tape, hbA.output, hbA.size, hbA.block⟩
            have oA := owns_base (b' := V.heap.size) ownA (Nat.le_refl _))
       clear ownA hbA
       obtain ⟨aA, nA, cA, rfl⟩ := owns_slice oA
       have x0 := (q1.stp kA).cell0; have x1 := (q1.stp kA).cell1)
    | (go_at_call 16
       refine (in_any ag gone.length cg _).mono ?_
       rintro e wB ⟨rfl, hwB⟩
       first
         | (have hbB : Below wA.heap.size wA wB := by rw [← hwB]; exact (Below.refl _ _).alloc (Nat.le_refl _) _
            have bB : Boxed wB wA.heap.size 22 (.slice ag gone.length cg) := by rw [← hwB]; exact Boxed.new _ _ _
            have kB := kA.trans (hbB.mono kA.size)
            replace oA := owns_below oA hbB
            clear hbB)
         | (have kB : Below V.heap.size V wB := by rw [← hwB]; exact ((Below.refl V.heap.size V).drew).alloc (Nat.le_refl _) _
            have bB : Boxed wB V.heap.size 22 (.slice ag gone.length cg) := by rw [← hwB]; exact Boxed.new V.drew _ _)
       clear hwB
       have y0 := (q1.stp kB).cell0; have y1 := (q1.stp kB).cell1)
    | (go_at_call 19
       refine (DelIn_any _ _ _ live gone V.heap.size _ (by exact oA) HWf.out hl hgl HSr.out (by exact bB) (by first | exact S1.out.below kA | exact S1.out.below kB) (fun b o n c e hn => Nat.lt_of_lt_of_le (HLow.out b o n c e hn) (Nat.le_of_lt ltB)) (by first | exact kA.size | exact kB.size)).mono ?_
       rintro e wC ⟨aC, cC, rfl, rC, hbC⟩
       first
         | (have kC : Below V.heap.size V wC := kA.trans hbC)
         | (have kC : Below V.heap.size V wC := kB.trans hbC)
       have u0 := (q1.stp kC).cell0; have u1 := (q1.stp kC).cell1
       have rG := S1.out.below kC)
    | (go_at_call 18
       refine (Make_none _ _ gone (Rv.left live gone) day wC rG rC K1.out K2.out HBd.out.1 K3.out HBd.out.2).mono ?_
       rintro e wD ⟨rfl, hbD⟩
       have kD : Below V.heap.size V wD := kC.trans (hbD.mono kC.size)
       have v0 := (q1.stp kD).cell0; have v1 := (q1.stp kD).cell1
       have zD := z1.stp kD
       have t0 := zD.cell0; have t1 := zD.cell1; have t2 := zD.free 0; have t3 := zD.free 1)
    | fail)
  all_goals
    go_wp2_with fail
    have hzz := (zD.set0 (.int .i64 0)).set1 (.slice none 0 0)
    have hBD := hB1.trans (kD.mono hB1.size)
    refine bodyPost_ret (casc_tmp rfl rfl hzz) rfl ?_
    exact ⟨rfl, (hBD.setCell (by rw [HB.out]; simp) _).setCell (by rw [HB.out]; simp) _⟩

set_option maxRecDepth 100000 in
set_option maxHeartbeats 8000000 in
theorem Day_some (vl vg : Value) (live gone : List Int) (day : Int) (ls : List Sm.Sv) (w : World) (h : Row .i64 w vl live) (hg : Row .i64 w vg gone) (hl : live.length ≤ 1000000) (hgl : gone.length ≤ 1000000) (hok : Rv.okay live gone) (hbd : Cm.dated day ∧ Cm.build day 16 0 gone (Rv.left live gone) = some ls) :
    Calls Tryz.prog 7 #[.agg #[vl, vg], .int .i64 day] w fun e w' => ∃ a c, e = .returned (.tuple #[.agg #[.int .i64 day, .slice a ls.length c], .int .i64 0]) ∧ Svs w' (.slice a ls.length c) ls ∧ Below w.heap.size w w' := by
  have hwf := h.wf
  have hlow := hg.low
  obtain ⟨al, cl, rfl⟩ := h.shape live.length rfl
  obtain ⟨ag, cg, rfl⟩ := hg.shape gone.length rfl
  obtain ⟨B, hB⟩ : ∃ B, w.heap.size = B := ⟨_, rfl⟩
  have q0 := Duo.new w 24 (.slice al live.length cl) (.slice ag gone.length cg)
  rw [hB] at q0 hlow
  have z0 := Duo.new' (w.alloc (.cells #[.slice al live.length cl, .slice ag gone.length cg] 24)) 32 (.int .i64 0) (.slice none 0 0) (B + 1) (by simp [hB])
  replace q0 := q0.alloc (.cells #[.int .i64 0, .slice none 0 0] 32)
  have hb0 := ((Below.refl w.heap.size w).alloc (Nat.le_refl _) (.cells #[.slice al live.length cl, .slice ag gone.length cg] 24)).alloc (by simp) (.cells #[.int .i64 0, .slice none 0 0] 32)
  have r0 := (h.alloc (.cells #[.slice al live.length cl, .slice ag gone.length cg] 24)).alloc (.cells #[.int .i64 0, .slice none 0 0] 32)
  have s0 := (hg.alloc (.cells #[.slice al live.length cl, .slice ag gone.length cg] 24)).alloc (.cells #[.int .i64 0, .slice none 0 0] 32)
  have HB := Lib.hid hB
  have R0 := Lib.hid r0; have S0 := Lib.hid s0; have HWf := Lib.hid hwf; have HLow := Lib.hid hlow
  clear h hg r0 s0 hB hwf hlow
  have c0 := q0.cell0; have c1 := q0.cell1
  have hck := Rv.chk_okay hok
  obtain ⟨k1, k2, k3⟩ := Rv.left_ok hok
  have K1 := Lib.hid k1; have K2 := Lib.hid k2; have K3 := Lib.hid k3; have HOk := Lib.hid hok; have HC := Lib.hid hck; have HBd := Lib.hid hbd
  have hsr := hok.1.2.1.2
  have HSr := Lib.hid hsr
  clear hck k1 k2 k3 hok hbd hsr
  go_enter Tryz.func7, Tryz.ntmps7
  go_wp2_with fail
  (try rw [HB.out])
  go_wp2_with fail
  refine (RCheck_any _ _ live gone _ R0.out S0.out hl hgl).mono ?_; rintro e V ⟨rfl, hb1⟩
  rw [HC.out]
  have hB1 := hb0.trans (hb1.mono hb0.size)
  have q1 := q0.stp hb1
  have z1 := z0.stp hb1
  have R1 := Lib.hid (R0.out.below hb1); have S1 := Lib.hid (S0.out.below hb1)
  clear hb1 c0 c1 hb0 q0 z0
  have c0 := q1.cell0; have c1 := q1.cell1; have ltB := q1.lt; have ltZ := z1.lt
  have f0 := z1.free 0; have f1 := z1.free 1; have d0 := z1.cell0; have d1 := z1.cell1
  have nBZ : ¬ B = B + 1 := by omega
  have nZB : ¬ B + 1 = B := by omega
  go_wp2_with fail
  go_region_held3 (fun w' => w'.cell? ⟨B, 0, none⟩ = some (.slice al live.length cl) ∧ w'.cell? ⟨B, 1, none⟩ = some (.slice ag gone.length cg))
    (first | go_keep | (refine ⟨?_, ?_⟩ <;> assumption))
    (first
    | (go_at_call 20
       refine (Clone64_any _ live _ (by first | exact R1.out.below kB | exact R1.out) (by omega)).mono ?_
       rintro e wA ⟨rA, rfl, ownA, hbA⟩
       first
         | (have kA : Below V.heap.size V wA := kB.trans (hbA.mono kB.size)
            replace bB := cboxed_stp bB hbA
            have oA := owns_base (b' := V.heap.size) ownA kB.size)
         | (have kA : Below V.heap.size V wA := ⟨hbA.os, hbA.tape, hbA.output, hbA.size, hbA.block⟩
            have oA := owns_base (b' := V.heap.size) ownA (Nat.le_refl _))
       clear ownA hbA
       obtain ⟨aA, nA, cA, rfl⟩ := owns_slice oA
       have x0 := (q1.stp kA).cell0; have x1 := (q1.stp kA).cell1)
    | (go_at_call 16
       refine (in_any ag gone.length cg _).mono ?_
       rintro e wB ⟨rfl, hwB⟩
       first
         | (have hbB : Below wA.heap.size wA wB := by rw [← hwB]; exact (Below.refl _ _).alloc (Nat.le_refl _) _
            have bB : Boxed wB wA.heap.size 22 (.slice ag gone.length cg) := by rw [← hwB]; exact Boxed.new _ _ _
            have kB := kA.trans (hbB.mono kA.size)
            replace oA := owns_below oA hbB
            clear hbB)
         | (have kB : Below V.heap.size V wB := by rw [← hwB]; exact ((Below.refl V.heap.size V).drew).alloc (Nat.le_refl _) _
            have bB : Boxed wB V.heap.size 22 (.slice ag gone.length cg) := by rw [← hwB]; exact Boxed.new V.drew _ _)
       clear hwB
       have y0 := (q1.stp kB).cell0; have y1 := (q1.stp kB).cell1)
    | (go_at_call 19
       refine (DelIn_any _ _ _ live gone V.heap.size _ (by exact oA) HWf.out hl hgl HSr.out (by exact bB) (by first | exact S1.out.below kA | exact S1.out.below kB) (fun b o n c e hn => Nat.lt_of_lt_of_le (HLow.out b o n c e hn) (Nat.le_of_lt ltB)) (by first | exact kA.size | exact kB.size)).mono ?_
       rintro e wC ⟨aC, cC, rfl, rC, hbC⟩
       first
         | (have kC : Below V.heap.size V wC := kA.trans hbC)
         | (have kC : Below V.heap.size V wC := kB.trans hbC)
       have u0 := (q1.stp kC).cell0; have u1 := (q1.stp kC).cell1
       have rG := S1.out.below kC)
    | (go_at_call 18
       refine (Make_some _ _ gone (Rv.left live gone) day ls wC rG rC K1.out K2.out HBd.out.1 K3.out HBd.out.2).mono ?_
       rintro e wD ⟨aD, cD, rfl, sD, pD, hbD⟩
       have kD : Below V.heap.size V wD := kC.trans (hbD.mono kC.size)
       have v0 := (q1.stp kD).cell0; have v1 := (q1.stp kD).cell1
       have zD := z1.stp kD
       have t0 := zD.cell0; have t1 := zD.cell1; have t2 := zD.free 0; have t3 := zD.free 1)
    | fail)
  all_goals
    go_wp2_with fail
    have hzz := (zD.set0 (.int .i64 day)).set1 (.slice aD ls.length cD)
    have hBD := hB1.trans (kD.mono hB1.size)
    refine bodyPost_ret (casc_tmp rfl rfl hzz) rfl ?_
    exact ⟨aD, cD, rfl, ((sD.aside pD (p := ⟨B + 1, 0, none⟩) (Nat.lt_of_lt_of_le ltZ kC.size) _).1.aside (sD.aside pD (p := ⟨B + 1, 0, none⟩) (Nat.lt_of_lt_of_le ltZ kC.size) _).2 (p := ⟨B + 1, 1, none⟩) (Nat.lt_of_lt_of_le ltZ kC.size) _).1, (hBD.setCell (by rw [HB.out]; simp) _).setCell (by rw [HB.out]; simp) _⟩
end Go.Proofs.YtikgdpfnpcfkkaaGreatDoor
end

section
namespace Go.Proofs.YtikgdpfnpcfkkaaGreatDoor
open Go.RowKit

/-- None of the first k is it. -/
def NotYet (l : List Int) (n : Int) (k : Nat) : Prop := ∀ i, i < k → l[i]?.getD 0 ≠ n
theorem notYet_all {l : List Int} {n : Int} (h : NotYet l n l.length) : n ∉ l := fun hm => by
  obtain ⟨i, hi, rfl⟩ := List.getElem_of_mem hm
  have := h i hi
  rw [List.getElem?_eq_getElem hi] at this
  exact this rfl
theorem mem_at {l : List Int} {n : Int} {k : Nat} (hk : k < l.length) (h : l[k]?.getD 0 = n) : n ∈ l := by
  rw [List.getElem?_eq_getElem hk] at h
  rw [← h]; exact List.getElem_mem hk

/-- The first k are the same. -/
def SameTo (a b : List Int) (k : Nat) : Prop := ∀ i, i < k → a[i]?.getD 0 = b[i]?.getD 0
theorem sameTo_all {a b : List Int} (hl : a.length = b.length) (h : SameTo a b a.length) : a = b := by
  apply List.ext_getElem hl
  intro i h1 h2
  have := h i h1
  rw [List.getElem?_eq_getElem h1, List.getElem?_eq_getElem h2] at this
  exact this

set_option maxRecDepth 100000 in
set_option maxHeartbeats 1000000 in
theorem RInts_any (v u : Value) (l m : List Int) (w : World) (h1 : Row .i64 w v l) (h2 : Row .i64 w u m) (hn : l.length ≤ 1000000) (hm : m.length ≤ 1000000) :
    Calls Tryz.prog 42 #[v, u] w fun e w' => e = .returned (.bool (decide (l = m))) ∧ Below w.heap.size w w' := by
  obtain ⟨a1, c1, rfl, hl1, hm1, -, -, hr1⟩ := h1
  obtain ⟨a2, c2, rfl, hl2, hm2, -, -, hr2⟩ := h2
  have HR1 := Lib.hid hr1; have HR2 := Lib.hid hr2
  clear hr1 hr2
  unfold maxLen at hm1 hm2
  by_cases hlen : l.length = m.length
  · have hlen' : (l.length : Int) = (m.length : Int) := by omega
    obtain ⟨N, hN⟩ : ∃ N, m.length = N := ⟨_, rfl⟩
    rw [hN] at hlen' hm hl2
    have hNl : l.length = N := by omega
    have HL := Lib.hid hlen; have HNm := Lib.hid hN; have HNl := Lib.hid hNl
    rw [hN, hNl]
    rw [hNl] at hn hl1
    clear hlen hN hlen' hNl
    go_enter Tryz.func42, Tryz.ntmps42
    go_wp2_with fail
    go_loopw [5] (fun i wr => ∃ k : Nat, k ≤ N ∧ i = .int .i64 k ∧ SameTo l m k ∧ Below w.heap.size w wr) (fun i _ => N - (intOf i).toNat)
    case atStart => exact ⟨0, Nat.zero_le _, rfl, fun i hi => absurd hi (Nat.not_lt_zero _), Below.refl _ _⟩
    case round =>
      obtain ⟨k, hk, rfl, hS, hB⟩ := hrel
      have HS := Lib.hid hS
      clear hS
      have e1 : IntKind.i64.wrap ((k : Int) + 1) = (k : Int) + 1 := IntWalk.i64_in _ (by omega)
      by_cases hlt : k < N
      · obtain ⟨b1, o1, rfl, hb1, hc1⟩ := HR1.out (by rintro rfl; have := HNl.out; simp at this; omega)
        obtain ⟨b2, o2, rfl, hb2, hc2⟩ := HR2.out (by rintro rfl; have := HNm.out; simp at this; omega)
        have g1 := (hB.cell (p := ⟨b1, o1 + k, none⟩) hb1).trans (hc1 k (by have := HNl.out; omega))
        have g2 := (hB.cell (p := ⟨b2, o2 + k, none⟩) hb2).trans (hc2 k (by have := HNm.out; omega))
        obtain ⟨x, hx⟩ : ∃ x, l[k]?.getD 0 = x := ⟨_, rfl⟩
        obtain ⟨y, hy⟩ : ∃ y, m[k]?.getD 0 = y := ⟨_, rfl⟩
        rw [hx] at g1
        rw [hy] at g2
        have HX := Lib.hid hx; have HY := Lib.hid hy
        have k1 : (k : Int) < (N : Int) := by omega
        have k0 : (0 : Int) ≤ (k : Int) := by omega
        clear hc1 hc2 hx hy
        by_cases hxy : x = y
        · subst hxy
          go_wp2_with fail
          go_region
          all_goals
            go_wp2_with fail
            go_roundw
            case rel =>
              refine ⟨k + 1, by omega, by go_num, fun i hi => ?_, hB.drew⟩
              rcases Nat.lt_or_ge i k with h | h
              · exact HS.out i h
              · obtain rfl : i = k := by omega
                rw [HX.out, HY.out]
            case measure => simp [intOf]; omega
        · have hne : ¬ l = m := fun e => hxy (by rw [← HX.out, ← HY.out, e])
          have HNe := Lib.hid hne
          clear hne
          go_wp2_with fail
          go_region
          all_goals
            go_wp2_with fail
            go_ret
            exact ⟨ret_bool (decide_eq_false HNe.out).symm, hB.drew⟩
      · obtain rfl : k = N := by omega
        have heq : l = m := sameTo_all HL.out (by rw [HNl.out]; exact HS.out)
        have HEq := Lib.hid heq
        clear heq
        go_wp2_with fail
        go_ret
        exact ⟨ret_bool (decide_eq_true HEq.out).symm, hB⟩
  · have hlen' : ¬ (l.length : Int) = (m.length : Int) := by omega
    have hne : ¬ l = m := fun e => hlen (by rw [e])
    have HNe := Lib.hid hne
    clear hne
    go_enter Tryz.func42, Tryz.ntmps42
    go_wp2_with fail
    go_ret
    exact ⟨ret_bool (decide_eq_false HNe.out).symm, Below.refl _ _⟩

set_option maxHeartbeats 400000 in
theorem LFew_any (ll lg : Nat) (al ag : Option Addr) (cl cg : Nat) (w : World) :
    Calls Tryz.prog 5 #[.agg #[.slice al ll cl, .slice ag lg cg]] w fun e w' => e = .returned (.bool (decide (ll ≤ 40) && decide (lg ≤ 40))) ∧ Below w.heap.size w w' := by
  by_cases h1 : ll ≤ 40
  · have h1' : (ll : Int) ≤ 40 := by omega
    by_cases h2 : lg ≤ 40
    · have h2' : (lg : Int) ≤ 40 := by omega
      go_enter Tryz.func5, Tryz.ntmps5
      go_wp2
      go_ret
      exact ⟨ret_bool (by first | rfl | simp [h1, h2] | (simp [h1, h2]; omega)), (Below.refl _ _).alloc (Nat.le_refl _) _⟩
    · have h2' : ¬ (lg : Int) ≤ 40 := by omega
      go_enter Tryz.func5, Tryz.ntmps5
      go_wp2
      go_ret
      exact ⟨ret_bool (by first | rfl | simp [h1, h2] | (simp [h1, h2]; omega)), (Below.refl _ _).alloc (Nat.le_refl _) _⟩
  · have h1' : ¬ (ll : Int) ≤ 40 := by omega
    go_enter Tryz.func5, Tryz.ntmps5
    go_wp2
    go_ret
    exact ⟨ret_bool (by first | rfl | simp [h1] | (simp [h1]; omega)), (Below.refl _ _).alloc (Nat.le_refl _) _⟩

set_option maxRecDepth 100000 in
set_option maxHeartbeats 1000000 in
theorem RSame_any (v1 v2 u1 u2 : Value) (l1 l2 m1 m2 : List Int) (w : World) (h1 : Row .i64 w v1 l1) (h2 : Row .i64 w v2 l2) (k1 : Row .i64 w u1 m1) (k2 : Row .i64 w u2 m2) (n1 : l1.length ≤ 1000000) (n2 : l2.length ≤ 1000000) (n3 : m1.length ≤ 1000000) (n4 : m2.length ≤ 1000000) :
    Calls Tryz.prog 13 #[.agg #[v1, v2], .agg #[u1, u2]] w fun e w' => e = .returned (.bool (decide (l1 = m1) && decide (l2 = m2))) ∧ Below w.heap.size w w' := by
  obtain ⟨a1, c1, rfl⟩ := h1.shape l1.length rfl
  obtain ⟨a2, c2, rfl⟩ := h2.shape l2.length rfl
  obtain ⟨a3, c3, rfl⟩ := k1.shape m1.length rfl
  obtain ⟨a4, c4, rfl⟩ := k2.shape m2.length rfl
  obtain ⟨W, hW⟩ : ∃ W, (w.alloc (.cells #[.slice a1 l1.length c1, .slice a2 l2.length c2] 24)).alloc (.cells #[.slice a3 m1.length c3, .slice a4 m2.length c4] 24) = W := ⟨_, rfl⟩
  have hb0 : Below w.heap.size w W := by rw [← hW]; exact ((Below.refl w.heap.size w).alloc (Nat.le_refl _) _).alloc (by simp) _
  obtain ⟨B, hB⟩ : ∃ B, w.heap.size = B := ⟨_, rfl⟩
  have q1 : Duo W B 24 (.slice a1 l1.length c1) (.slice a2 l2.length c2) := by rw [← hW, ← hB]; exact (Duo.new w 24 _ _).alloc _
  have q2 : Duo W (B + 1) 24 (.slice a3 m1.length c3) (.slice a4 m2.length c4) := by rw [← hW]; exact Duo.new' _ _ _ _ _ (by simp [hB])
  have R1 := Lib.hid (h1.below hb0); have R2 := Lib.hid (h2.below hb0); have R3 := Lib.hid (k1.below hb0); have R4 := Lib.hid (k2.below hb0)
  have HW := Lib.hid hW; have HB := Lib.hid hB
  clear h1 h2 k1 k2 hW hB
  obtain ⟨x, hx⟩ : ∃ x, decide (l1 = m1) = x := ⟨_, rfl⟩
  obtain ⟨y, hy⟩ : ∃ y, decide (l2 = m2) = y := ⟨_, rfl⟩
  rw [hx, hy]
  have HX := Lib.hid hx; have HY := Lib.hid hy
  clear hx hy
  have c0 := q1.cell0; have d0 := q2.cell0
  cases x with
  | false =>
    go_enter Tryz.func13, Tryz.ntmps13
    go_wp2_with fail
    (try rw [HW.out])
    (try rw [HB.out])
    go_wp2_with fail
    refine (RInts_any _ _ l1 m1 W R1.out R3.out n1 n3).mono ?_; rintro e w1 ⟨rfl, hb1⟩
    rw [HX.out]
    have hB1 := hb0.trans (hb1.mono hb0.size)
    clear hb1 c0 d0
    go_wp2_with fail
    go_ret
    exact ⟨rfl, hB1⟩
  | true =>
    go_enter Tryz.func13, Tryz.ntmps13
    go_wp2_with fail
    (try rw [HW.out])
    (try rw [HB.out])
    go_wp2_with fail
    refine (RInts_any _ _ l1 m1 W R1.out R3.out n1 n3).mono ?_; rintro e w1 ⟨rfl, hb1⟩
    rw [HX.out]
    have hB1 := hb0.trans (hb1.mono hb0.size)
    have r2 := R2.out.below hb1; have r4 := R4.out.below hb1
    have R2' := Lib.hid r2; have R4' := Lib.hid r4
    have c1 := (q1.stp hb1).cell1; have d1 := (q2.stp hb1).cell1
    clear hb1 c0 d0 r2 r4
    go_wp2_with fail
    refine (RInts_any _ _ l2 m2 w1 R2'.out R4'.out n2 n4).mono ?_; rintro e w2 ⟨rfl, hb2⟩
    rw [HY.out]
    have hB2 := hB1.trans (hb2.mono hB1.size)
    clear hb2 c1 d1
    go_wp2_with fail
    go_ret
    exact ⟨ret_bool (by simp), hB2⟩
end Go.Proofs.YtikgdpfnpcfkkaaGreatDoor
end

section
namespace Go.Proofs.YtikgdpfnpcfkkaaGreatDoor
open Go.RowKit

theorem Add_is (vl vg : Value) (live gone : List Int) (n : Int) (E : Int) (L G : List Int) (x y : Nat) (w : World) (h : Row .i64 w vl live) (hg : Row .i64 w vg gone) (hl : live.length ≤ 1000000) (hgl : gone.length ≤ 1000000) (hn : (Lit.int .i64 n).wf = true)
    (hE : Rv.addE live gone n = E) (hL : Rv.addR live gone n = (L, G)) (hx : L.length = x) (hy : G.length = y) :
    Calls Tryz.prog 12 #[.agg #[vl, vg], .int .i64 n] w fun e w' => (∃ a1 c1 a2 c2, e = .returned (.tuple #[.agg #[.slice a1 x c1, .slice a2 y c2], .int .i64 E]) ∧ Row .i64 w' (.slice a1 x c1) L ∧ Row .i64 w' (.slice a2 y c2) G) ∧ Below w.heap.size w w' := by
  have := Add_rv vl vg live gone n w h hg hl hgl hn
  rw [hE, hL] at this
  unfold RevsOut at this
  simp only [hx, hy] at this
  exact this
theorem Rev_is (vl vg : Value) (live gone : List Int) (n : Int) (E : Int) (L G : List Int) (x y : Nat) (w : World) (h : Row .i64 w vl live) (hg : Row .i64 w vg gone) (hl : live.length ≤ 1000000) (hgl : gone.length ≤ 1000000) (hn : (Lit.int .i64 n).wf = true)
    (hE : Rv.revE live gone n = E) (hL : Rv.revR live gone n = (L, G)) (hx : L.length = x) (hy : G.length = y) :
    Calls Tryz.prog 6 #[.agg #[vl, vg], .int .i64 n] w fun e w' => (∃ a1 c1 a2 c2, e = .returned (.tuple #[.agg #[.slice a1 x c1, .slice a2 y c2], .int .i64 E]) ∧ Row .i64 w' (.slice a1 x c1) L ∧ Row .i64 w' (.slice a2 y c2) G) ∧ Below w.heap.size w w' := by
  have := Revoke_rv vl vg live gone n w h hg hl hgl hn
  rw [hE, hL] at this
  unfold RevsOut at this
  simp only [hx, hy] at this
  exact this
/-- A row of numbers does not lie in a box of slices. -/
theorem Row.off_duo {W : World} {R : Nat} {t : TypeId} {a1 a2 : Option Addr} {n1 n2 c1 c2 : Nat} {v : Value} {l : List Int} (h : Row .i64 W v l) (hd : Duo W R t (.slice a1 n1 c1) (.slice a2 n2 c2)) : Off R v := fun b o n c e hn he => by
  obtain ⟨a, cap, e2, _, _, _, _, hc⟩ := h
  rw [e] at e2
  cases e2
  obtain ⟨b2, o2, e3, _, hcell⟩ := hc (by rintro rfl; simp at hn)
  cases e3
  subst he
  have h0 := hcell 0 (by omega)
  simp only [World.cell?, show W.heap[b]? = _ from hd, Nat.add_zero] at h0
  match o, h0 with
  | 0, h0 => simp at h0
  | 1, h0 => simp at h0
  | k + 2, h0 => simp at h0
def liveAt : Nat → List Int
  | 0 => []
  | 1 => [9]
  | 2 => [3, 9]
  | _ => [3, 5, 9]
def liveN : Nat → Int
  | 0 => 9
  | 1 => 3
  | _ => 5
theorem liveAt_len (k : Nat) (hk : k ≤ 3) : (liveAt k).length = k := by
  match k, hk with
  | 0, _ => rfl
  | 1, _ => rfl
  | 2, _ => rfl
  | 3, _ => rfl
theorem liveAt_next (k : Nat) (hk : k < 3) : Rv.addE (liveAt k) [] (liveN k) = 0 ∧ Rv.addR (liveAt k) [] (liveN k) = (liveAt (k + 1), []) := by
  match k, hk with
  | 0, _ => decide
  | 1, _ => decide
  | 2, _ => decide
theorem liveN_at (k : Nat) (hk : k < 3) : ([9, 3, 5] : List Int)[k]?.getD 0 = liveN k ∧ (Lit.int .i64 (liveN k)).wf = true := by
  match k, hk with
  | 0, _ => decide
  | 1, _ => decide
  | 2, _ => decide
theorem live_day : ∃ ls, Rv.okay [3, 5, 9] [5] ∧ Cm.dated 1 ∧ Cm.build 1 16 0 [5] (Rv.left [3, 5, 9] [5]) = some ls := by
  have h : (Cm.build 1 16 0 [5] (Rv.left [3, 5, 9] [5])).isSome = true := by decide +kernel
  obtain ⟨ls, hl⟩ := Option.isSome_iff_exists.1 h
  exact ⟨ls, by decide, by decide, hl⟩
theorem live_has {ls : List Sm.Sv} (h : Cm.build 1 16 0 [5] (Rv.left [3, 5, 9] [5]) = some ls) : Cm.has 1 ls 5 = true ∧ Cm.has 1 ls 3 = false ∧ Cm.has 1 ls 9 = false ∧ ls.length ≤ 16 := by
  have hd : Rv.day [3, 5, 9] [5] 1 = some ls := by unfold Rv.day; rw [if_pos ⟨by decide, by decide⟩]; exact h
  obtain ⟨-, -, hg, -, h1, h2⟩ := Rv.day_has hd
  exact ⟨h1 5 (by simp), h2 3 (by simp) (by simp), h2 9 (by simp) (by simp), hg.1⟩
theorem live_codes : Rv.revE [3, 5, 9] [] 5 = 0 ∧ Rv.revR [3, 5, 9] [] 5 = ([3, 5, 9], [5]) ∧ Rv.revE [3, 5, 9] [5] 5 = 270 ∧ Rv.revR [3, 5, 9] [5] 5 = ([], []) ∧ Rv.revE [3, 5, 9] [5] 4 = 131 ∧ Rv.revR [3, 5, 9] [5] 4 = ([], []) ∧
    Rv.addE [3, 5, 9] [5] 3 = 221 ∧ Rv.addR [3, 5, 9] [5] 3 = ([], []) ∧ Rv.chk [3, 5, 9] [5] = 0 ∧ Rv.chk [] [1] = 1 := by decide
end Go.Proofs.YtikgdpfnpcfkkaaGreatDoor
end

section
namespace Go.Proofs.YtikgdpfnpcfkkaaGreatDoor
open Go.RowKit

set_option maxRecDepth 100000 in
set_option maxHeartbeats 8000000 in
theorem live27_true (w : World) : Calls Tryz.prog 4 #[] w fun e w' => e = .returned (.bool true) ∧ Below w.heap.size w w' := by
  obtain ⟨ls, lo, ld, lb⟩ := live_day
  obtain ⟨lh5, lh3, lh9, ll⟩ := live_has lb
  obtain ⟨m1, m2, m3, m4, m5, m6, m7, m8, m9, m10⟩ := live_codes
  have LO := Lib.hid lo; have LD := Lib.hid ld; have LB := Lib.hid lb; have LH5 := Lib.hid lh5; have LH3 := Lib.hid lh3; have LH9 := Lib.hid lh9; have LL := Lib.hid ll
  have M1 := Lib.hid m1; have M2 := Lib.hid m2; have M3 := Lib.hid m3; have M4 := Lib.hid m4; have M5 := Lib.hid m5; have M6 := Lib.hid m6; have M7 := Lib.hid m7; have M8 := Lib.hid m8; have M9 := Lib.hid m9; have M10 := Lib.hid m10
  clear lo ld lb lh5 lh3 lh9 ll m1 m2 m3 m4 m5 m6 m7 m8 m9 m10
  obtain ⟨Rb, hRb⟩ : ∃ Rb, w.heap.size = Rb := ⟨_, rfl⟩
  obtain ⟨W, hW⟩ : ∃ W, (w.alloc (.cells #[.slice none 0 0, .slice none 0 0] 24)).alloc (.cells #[.int .i64 9, .int .i64 3, .int .i64 5] 3) = W := ⟨_, rfl⟩
  have hB : Below w.heap.size w W := by rw [← hW]; exact ((Below.refl w.heap.size w).alloc (Nat.le_refl _) _).alloc (by simp) _
  have q0 : Duo W Rb 24 (.slice none 0 0) (.slice none 0 0) := by rw [← hW, ← hRb]; exact (Duo.new w 24 _ _).alloc _
  obtain ⟨Lb, hLb⟩ : ∃ Lb, Rb + 1 = Lb := ⟨_, rfl⟩
  have rl : Row .i64 W (.slice (some ⟨Lb, 0, none⟩) 3 3) [9, 3, 5] := by
    rw [← hLb]
    rw [← hW]
    have := Row.lit .i64 (w.alloc (.cells #[.slice none 0 0, .slice none 0 0] 24)) 3 [9, 3, 5] (by unfold maxLen; simp) (by decide)
    simpa [hRb] using this
  have HLb := Lib.hid hLb; have lRL : ¬ Lb = Rb := by omega
  have lLR : ¬ Rb = Lb := by omega
  have HW := Lib.hid hW; have HRb := Lib.hid hRb; have RL := Lib.hid rl
  clear hW hRb rl hLb
  go_enter Tryz.func4, Tryz.ntmps4
  go_wp2_with fail
  rw [HW.out]
  (try rw [HRb.out])
  (try rw [HLb.out])
  go_loopw [3, 4, 5] (fun i _ _ wr => ∃ (k : Nat) (v1 v2 : Value), i = .int .i64 k ∧ k ≤ 3 ∧ Duo wr Rb 24 v1 v2 ∧ Row .i64 wr v1 (liveAt k) ∧ Row .i64 wr v2 [] ∧ Row .i64 wr (.slice (some ⟨Lb, 0, none⟩) 3 3) [9, 3, 5] ∧ Below w.heap.size w wr) (fun i _ _ _ => 3 - (intOf i).toNat)
  case atStart => exact ⟨0, _, _, rfl, by omega, q0, Row.nil _ _, Row.nil _ _, RL.out, hB⟩
  case round =>
    obtain ⟨k, v1, v2, rfl, hk, hd, r1, r2, rl, hb⟩ := hrel
    clear q0 hB
    obtain ⟨a1, c1, rfl⟩ := r1.shape k (liveAt_len k hk)
    obtain ⟨a2, c2, rfl⟩ := r2.shape 0 rfl
    have k0 : (0 : Int) ≤ (k : Int) := by omega
    have e1 : IntKind.i64.wrap ((k : Int) + 1) = (k : Int) + 1 := IntWalk.i64_in _ (by omega)
    have c0 := hd.cell0; have d0 := hd.cell1; have ltR := hd.lt
    by_cases hlt : k < 3
    · have k1 : (k : Int) < 3 := by omega
      obtain ⟨x1, x2⟩ := liveAt_next k hlt
      obtain ⟨y1, y2⟩ := liveN_at k hlt
      obtain ⟨_, _, e', _, _, _, _, h5⟩ := rl
      cases e'
      obtain ⟨b0, o0, e', hb0, hc0⟩ := h5 (by simp)
      cases e'
      have hck := hc0 k (by simpa using hlt)
      rw [y1] at hck
      simp only [Nat.zero_add] at hck
      obtain ⟨n, hn⟩ : ∃ n, liveN k = n := ⟨_, rfl⟩
      rw [hn] at hck x1 x2 y2
      have X1 := Lib.hid x1; have X2 := Lib.hid x2; have Y2 := Lib.hid y2; have Hd := Lib.hid hd; have R1 := Lib.hid r1; have R2 := Lib.hid r2; have Hb := Lib.hid hb
      have rl : Row .i64 wr (.slice (some ⟨Lb, 0, none⟩) 3 3) [9, 3, 5] := ⟨_, 3, rfl, by simp, by unfold maxLen; simp, by simp, by decide, fun _ => ⟨_, _, rfl, hb0, hc0⟩⟩
      have Rl := Lib.hid rl
      have nR1 : ¬ Rb = wr.heap.size := by omega
      have nR2 : ¬ wr.heap.size = Rb := by omega
      have nL1 : ¬ Lb = wr.heap.size := by have : Lb < wr.heap.size := hb0; omega
      have nL2 : ¬ wr.heap.size = Lb := fun h => nL1 h.symm
      have ltL : Lb < wr.heap.size := hb0
      clear hc0 h5 hn x1 x2 y1 y2 hd r1 r2 hb rl
      go_wp2_with fail
      go_region_held3 (fun w' => w'.cell? ⟨Rb, 0, none⟩ = some (.slice a1 k c1) ∧ w'.cell? ⟨Rb, 1, none⟩ = some (.slice a2 0 c2) ∧ w'.cell? ⟨Lb, k, none⟩ = some (.int .i64 n))
        (first | go_keep | (refine ⟨?_, ?_, ?_⟩ <;> assumption) | trivial | (go_simp; done) | (refine ⟨?_, ?_, ?_⟩ <;> (first | assumption | trivial | (go_simp; done) | (go_simp; assumption))))
        (first
        | (go_at_call 12
           refine (Add_is _ _ (liveAt k) [] n 0 (liveAt (k + 1)) [] (k + 1) 0 _ (by first | exact R1.out | exact (R1.out.alloc _)) (by first | exact R2.out | exact (R2.out.alloc _)) (by rw [liveAt_len k hk]; omega) (by simp) Y2.out X1.out X2.out (liveAt_len (k + 1) hlt) rfl).mono ?_
           rintro e w2 ⟨⟨a3, c3, a4, c4, rfl, r3, r4⟩, hb2⟩
           first
             | (have hW2 : Below wr.heap.size wr w2 := bel_stp (bel_drew (Below.refl wr.heap.size wr)) hb2)
             | (have hW2 : Below wr.heap.size wr w2 := bel_stp (bel_drew (bel_alloc (Below.refl wr.heap.size wr) _)) hb2)
           have d2 := Hd.out.stp hW2
           have x0 := d2.cell0; have x1 := d2.cell1; have l2 := Rl.out.below hW2
           have x2 : w2.cell? ⟨Lb, k, none⟩ = some (.int .i64 n) := (hW2.cell (p := ⟨Lb, k, none⟩) hb0).trans hck
           have lt2 := d2.lt
           have nW1 : ¬ Rb = w2.heap.size := by omega
           have nW2 : ¬ w2.heap.size = Rb := by omega
           have lr2 := hb0
           have nX2 : ¬ Lb = w2.heap.size := by have := hW2.size; omega
           have nX3 : ¬ w2.heap.size = Lb := fun h => nX2 h.symm
           have ltX : Lb < w2.heap.size := by have := hW2.size; omega
           first | (have zz : Duo w2 wr.heap.size 24 (.slice none 0 0) (.slice none 0 0) := ?_; rotate_left; (focus (refine Duo.stp ?_ hb2; refine Duo.drew ?_; refine Duo.new' _ _ _ _ _ ?_; rfl)); have z0 := zz.cell0; have z1 := zz.cell1; have z2 := zz.free 0; have z3 := zz.free 1) | skip)
        | fail)
      all_goals
        clear c0 d0 ltR k0 k1 nR1 nR2 nL1 nL2 ltL x0 x1 x2 lt2 nW1 nW2 lr2 nX2 nX3 ltX d2 l2 hck
        first
        | (have nx := (zz.set0 (.slice a3 (k + 1) c3)).set1 (.slice a4 0 c4)
           have o3 := r3.off_duo zz
           have o4 := r4.off_duo zz
           have hx := bel_set (bel_set hW2 (p := ⟨wr.heap.size, 0, none⟩) (Nat.le_refl _) (.slice a3 (k + 1) c3)) (p := ⟨wr.heap.size, 1, none⟩) (Nat.le_refl _) (.slice a4 0 c4)
           replace r3 := (Row.aside r3 (p := ⟨wr.heap.size, 0, none⟩) o3 (.slice a3 (k + 1) c3)).aside (p := ⟨wr.heap.size, 1, none⟩) o3 (.slice a4 0 c4)
           replace r4 := (Row.aside r4 (p := ⟨wr.heap.size, 0, none⟩) o4 (.slice a3 (k + 1) c3)).aside (p := ⟨wr.heap.size, 1, none⟩) o4 (.slice a4 0 c4)
           have hle : wr.heap.size ≤ wr.heap.size := Nat.le_refl _
           clear zz z0 z1 z2 z3 hb2 hW2 o3 o4
           have dx := Hd.out.stp hx
           have lx := Rl.out.below hx
           have bx := bel_stp Hb.out hx
           clear hx
           have ltR := Hd.out.lt
           generalize hX : World.setCell (World.setCell w2 ⟨wr.heap.size, 0, none⟩ (.slice a3 (k + 1) c3)) ⟨wr.heap.size, 1, none⟩ (.slice a4 0 c4) = X at *
           generalize hg : wr.heap.size = g at *
           clear hX hg)
        | (have nx := Duo.new w2 24 (.slice a3 (k + 1) c3) (.slice a4 0 c4)
           have hx := bel_alloc hW2 (.cells #[.slice a3 (k + 1) c3, .slice a4 0 c4] 24)
           replace r3 := r3.alloc (.cells #[.slice a3 (k + 1) c3, .slice a4 0 c4] 24)
           replace r4 := r4.alloc (.cells #[.slice a3 (k + 1) c3, .slice a4 0 c4] 24)
           have ltR : Rb < w2.heap.size := Nat.lt_of_lt_of_le Hd.out.lt hW2.size
           clear hb2 hW2
           have dx := Hd.out.stp hx
           have lx := Rl.out.below hx
           have bx := bel_stp Hb.out hx
           clear hx
           generalize hX : World.alloc w2 (.cells #[.slice a3 (k + 1) c3, .slice a4 0 c4] 24) = X at *
           generalize hg : w2.heap.size = g at *
           clear hX hg)
        have c0 := nx.cell0; have c1 := nx.cell1; have ltg := nx.lt
        have d0 := dx.cell0; have d1 := dx.cell1; have ltx := dx.lt; have fr0 := dx.free 0; have fr1 := dx.free 1
        have nG1 : ¬ Rb = g := by omega
        have nG2 : ¬ g = Rb := by omega
        have R3 := Lib.hid r3; have R4 := Lib.hid r4; have Dx := Lib.hid dx; have Lx := Lib.hid lx; have Bx := Lib.hid bx
        clear r3 r4 dx lx bx nx
        go_wp2_with fail
        go_roundw
        case rel =>
          have o3 := R3.out.off_duo Dx.out
          have o4 := R4.out.off_duo Dx.out
          exact ⟨k + 1, _, _, by go_num, by omega, (Dx.out.set0 _).set1 _, (Row.aside R3.out (p := ⟨Rb, 0, none⟩) o3 _).aside (p := ⟨Rb, 1, none⟩) o3 _, (Row.aside R4.out (p := ⟨Rb, 0, none⟩) o4 _).aside (p := ⟨Rb, 1, none⟩) o4 _, (Row.aside Lx.out (p := ⟨Rb, 0, none⟩) (Lx.out.off_duo Dx.out) _).aside (p := ⟨Rb, 1, none⟩) (Lx.out.off_duo Dx.out) _, bel_set (bel_set Bx.out (p := ⟨Rb, 0, none⟩) (by have := HRb.out; show w.heap.size ≤ Rb; omega) _) (p := ⟨Rb, 1, none⟩) (by have := HRb.out; show w.heap.size ≤ Rb; omega) _⟩
        case measure => simp [intOf]; omega
    · obtain rfl : k = 3 := by omega
      clear hlt c0 d0 ltR k0 e1 rl hk
      have r1 : Row .i64 wr (.slice a1 3 c1) [3, 5, 9] := r1

      have hb0 := hb
      clear hb
      have c0_hd := hd.cell0
      have c1_hd := hd.cell1
      have lt_hd := hd.lt
      go_wp2_with fail
      refine (Rev_is _ _ [3, 5, 9] [] 5 0 [3, 5, 9] [5] 3 1 _ r1 r2 (by simp) (by simp) (by decide) M1.out M2.out rfl rfl).mono ?_; rintro e w1 ⟨⟨a3, c3, a4, c4, rfl, x1, x2⟩, hb⟩
      clear c0_hd c1_hd lt_hd
      replace hd := hd.stp hb
      replace r1 := r1.stp hb
      replace r2 := r2.stp hb
      replace hb0 := bel_stp hb0 hb
      clear hb
      clear hd r1 r2
      have bX := Duo.new w1 24 (.slice a3 3 c3) (.slice a4 1 c4)
      have c0_bX := bX.cell0
      have c1_bX := bX.cell1
      have lt_bX := bX.lt
      go_wp2_with fail
      refine (Rev_is _ _ [3, 5, 9] [5] 5 270 [] [] 0 0 _ (x1.alloc _) (x2.alloc _) (by simp) (by simp) (by decide) M3.out M4.out rfl rfl).mono ?_; rintro e w2 ⟨⟨a5, c5, a6, c6, rfl, _, _⟩, hb⟩
      clear c0_bX c1_bX lt_bX
      replace hb0 := bel_stp (bel_alloc hb0 _) hb
      replace x1 := (x1.alloc _).stp hb
      replace x2 := (x2.alloc _).stp hb
      replace bX := bX.stp hb
      clear hb
      have c0_bX := bX.cell0
      have c1_bX := bX.cell1
      have lt_bX := bX.lt
      go_wp2_with fail
      refine (Rev_is _ _ [3, 5, 9] [5] 4 131 [] [] 0 0 _ (x1.alloc _) (x2.alloc _) (by simp) (by simp) (by decide) M5.out M6.out rfl rfl).mono ?_; rintro e w3 ⟨⟨a7, c7, a8, c8, rfl, _, _⟩, hb⟩
      clear c0_bX c1_bX lt_bX
      replace hb0 := bel_stp (bel_alloc hb0 _) hb
      replace x1 := (x1.alloc _).stp hb
      replace x2 := (x2.alloc _).stp hb
      replace bX := (bX.alloc _).stp hb
      clear hb
      have c0_bX := bX.cell0
      have c1_bX := bX.cell1
      have lt_bX := bX.lt
      go_wp2_with fail
      refine (Add_is _ _ [3, 5, 9] [5] 3 221 [] [] 0 0 _ (x1.alloc _) (x2.alloc _) (by simp) (by simp) (by decide) M7.out M8.out rfl rfl).mono ?_; rintro e w4 ⟨⟨a9, c9, a10, c10, rfl, _, _⟩, hb⟩
      clear c0_bX c1_bX lt_bX
      replace hb0 := bel_stp (bel_alloc hb0 _) hb
      replace x1 := (x1.alloc _).stp hb
      replace x2 := (x2.alloc _).stp hb
      replace bX := (bX.alloc _).stp hb
      clear hb
      have c0_bX := bX.cell0
      have c1_bX := bX.cell1
      have lt_bX := bX.lt
      go_wp2_with fail
      refine (Day_some _ _ [3, 5, 9] [5] 1 ls _ (x1.alloc _) (x2.alloc _) (by simp) (by simp) LO.out ⟨LD.out, LB.out⟩).mono ?_; rintro e w5 ⟨a11, c11, rfl, sv, hb⟩
      clear c0_bX c1_bX lt_bX
      replace hb0 := bel_stp (bel_alloc hb0 _) hb
      replace x1 := (x1.alloc _).stp hb
      replace x2 := (x2.alloc _).stp hb
      replace bX := (bX.alloc _).stp hb
      clear hb
      have bC := Duo.new w5 32 (.int .i64 1) (.slice a11 ls.length c11)
      have c0_bX := bX.cell0
      have c1_bX := bX.cell1
      have lt_bX := bX.lt
      have c0_bC := bC.cell0
      have c1_bC := bC.cell1
      have lt_bC := bC.lt
      have k1 := (Row.lit .i64 (w5.alloc (.cells #[.int .i64 1, .slice a11 ls.length c11] 32)) 3 [3, 5, 9] (by unfold maxLen; simp) (by decide)).alloc (.cells #[.int .i64 5] 3)
      have k2 := Row.lit .i64 ((w5.alloc (.cells #[.int .i64 1, .slice a11 ls.length c11] 32)).alloc (.cells #[.int .i64 3, .int .i64 5, .int .i64 9] 3)) 3 [5] (by unfold maxLen; simp) (by decide)
      simp only [World.size_alloc] at k1 k2
      go_wp2_with fail
      refine (RSame_any _ _ _ _ [3, 5, 9] [5] [3, 5, 9] [5] _ (((x1.alloc _).alloc _).alloc _) (((x2.alloc _).alloc _).alloc _) (by exact k1) (by exact k2) (by simp) (by simp) (by simp) (by simp)).mono ?_; rintro e w6 ⟨rfl, hb⟩
      clear c0_bX c1_bX lt_bX c0_bC c1_bC lt_bC
      replace hb0 := bel_stp (bel_alloc (bel_alloc (bel_alloc hb0 _) _) _) hb
      replace x1 := (((x1.alloc _).alloc _).alloc _).stp hb
      replace x2 := (((x2.alloc _).alloc _).alloc _).stp hb
      replace bX := (((bX.alloc _).alloc _).alloc _).stp hb
      replace sv := (((sv.alloc _).alloc _).alloc _).stp hb
      replace bC := ((bC.alloc _).alloc _).stp hb
      clear hb
      clear k1 k2
      simp only [decide_true, Bool.and_self]
      have c0_bX := bX.cell0
      have c1_bX := bX.cell1
      have lt_bX := bX.lt
      have c0_bC := bC.cell0
      have c1_bC := bC.cell1
      have lt_bC := bC.lt
      go_wp2_with fail
      refine (RGone_any _ _ [5] 5 _ 3 _ _ rfl x2 (by simp)).mono ?_; rintro e w7 ⟨rfl, hb⟩
      clear c0_bX c1_bX lt_bX c0_bC c1_bC lt_bC
      replace hb0 := bel_stp hb0 hb
      replace x1 := x1.stp hb
      replace x2 := x2.stp hb
      replace bX := bX.stp hb
      replace sv := sv.stp hb
      replace bC := bC.stp hb
      clear hb
      rw [show decide ((5 : Int) ∈ ([5] : List Int)) = true by decide]
      have c0_bX := bX.cell0
      have c1_bX := bX.cell1
      have lt_bX := bX.lt
      have c0_bC := bC.cell0
      have c1_bC := bC.cell1
      have lt_bC := bC.lt
      go_wp2_with fail
      refine (RGone_any _ _ [5] 3 _ 3 _ _ rfl x2 (by simp)).mono ?_; rintro e w8 ⟨rfl, hb⟩
      clear c0_bX c1_bX lt_bX c0_bC c1_bC lt_bC
      replace hb0 := bel_stp hb0 hb
      replace x1 := x1.stp hb
      replace x2 := x2.stp hb
      replace bX := bX.stp hb
      replace sv := sv.stp hb
      replace bC := bC.stp hb
      clear hb
      rw [show decide ((3 : Int) ∈ ([5] : List Int)) = false by decide]
      have c0_bX := bX.cell0
      have c1_bX := bX.cell1
      have lt_bX := bX.lt
      have c0_bC := bC.cell0
      have c1_bC := bC.cell1
      have lt_bC := bC.lt
      go_wp2_with fail
      refine (CHas_any 1 _ ls 5 _ sv (by have := LL.out; omega)).mono ?_; rintro e w9 ⟨rfl, hb⟩
      clear c0_bX c1_bX lt_bX c0_bC c1_bC lt_bC
      replace hb0 := bel_stp hb0 hb
      replace x1 := x1.stp hb
      replace x2 := x2.stp hb
      replace bX := bX.stp hb
      replace sv := sv.stp hb
      replace bC := bC.stp hb
      clear hb
      rw [LH5.out]
      have c0_bX := bX.cell0
      have c1_bX := bX.cell1
      have lt_bX := bX.lt
      have c0_bC := bC.cell0
      have c1_bC := bC.cell1
      have lt_bC := bC.lt
      go_wp2_with fail
      refine (CHas_any 1 _ ls 3 _ sv (by have := LL.out; omega)).mono ?_; rintro e w10 ⟨rfl, hb⟩
      clear c0_bX c1_bX lt_bX c0_bC c1_bC lt_bC
      replace hb0 := bel_stp hb0 hb
      replace x1 := x1.stp hb
      replace x2 := x2.stp hb
      replace bX := bX.stp hb
      replace sv := sv.stp hb
      replace bC := bC.stp hb
      clear hb
      rw [LH3.out]
      have c0_bX := bX.cell0
      have c1_bX := bX.cell1
      have lt_bX := bX.lt
      have c0_bC := bC.cell0
      have c1_bC := bC.cell1
      have lt_bC := bC.lt
      go_wp2_with fail
      refine (CHas_any 1 _ ls 9 _ sv (by have := LL.out; omega)).mono ?_; rintro e w11 ⟨rfl, hb⟩
      clear c0_bX c1_bX lt_bX c0_bC c1_bC lt_bC
      replace hb0 := bel_stp hb0 hb
      replace x1 := x1.stp hb
      replace x2 := x2.stp hb
      replace bX := bX.stp hb
      replace sv := sv.stp hb
      replace bC := bC.stp hb
      clear hb
      rw [LH9.out]
      have c0_bX := bX.cell0
      have c1_bX := bX.cell1
      have lt_bX := bX.lt
      have c0_bC := bC.cell0
      have c1_bC := bC.cell1
      have lt_bC := bC.lt
      go_wp2_with fail
      refine (RCheck_any _ _ [3, 5, 9] [5] _ x1 x2 (by simp) (by simp)).mono ?_; rintro e w12 ⟨rfl, hb⟩
      clear c0_bX c1_bX lt_bX c0_bC c1_bC lt_bC
      replace hb0 := bel_stp hb0 hb
      replace x1 := x1.stp hb
      replace x2 := x2.stp hb
      replace bX := bX.stp hb
      replace sv := sv.stp hb
      replace bC := bC.stp hb
      clear hb
      rw [M9.out]
      have k3 := Row.lit .i64 w12 3 [1] (by unfold maxLen; simp) (by decide)
      go_wp2_with fail
      refine (RCheck_any _ _ [] [1] _ (Row.nil _ _) (by exact k3) (by simp) (by simp)).mono ?_; rintro e w13 ⟨rfl, hb⟩
      replace hb0 := bel_stp (bel_alloc hb0 _) hb
      replace x1 := (x1.alloc _).stp hb
      replace x2 := (x2.alloc _).stp hb
      replace bX := (bX.alloc _).stp hb
      replace sv := (sv.alloc _).stp hb
      replace bC := (bC.alloc _).stp hb
      clear hb
      rw [M10.out]
      go_wp2_with fail
      go_ret
      exact ⟨rfl, hb0⟩
end Go.Proofs.YtikgdpfnpcfkkaaGreatDoor
end

section
namespace Go.Proofs.YtikgdpfnpcfkkaaGreatDoor
open Go.RowKit Go.ChangeShapes Go.WideShapes Go.Joins

/-- A value of what was issued and revoked. -/
def RvV (W : World) (v : Value) (x : List Int × List Int) : Prop := ∃ vl vg, v = .agg #[vl, vg] ∧ Row .i64 W vl x.1 ∧ Row .i64 W vg x.2
set_option maxRecDepth 100000 in
theorem revs_open {H : Type} {enc : TypeId × Value → H} {W : World} {b0 base : Nat} {v : Value} {d : DataW H} {p : List MemPlace} (hv : Value.okWide Tryz.prog W .any b0 24 v)
    (h : DataW.Trod enc Tryz.prog W base (fun _ => true) true 24 v d p) : ∃ x : List Int × List Int, RvV W v x := by
  obtain ⟨v0, v1, y0, y1, n, rfl, -, -, t0, t1⟩ := open_agg2 Tryz.underlying24 (by kernel_rfl) (by kernel_rfl) hv h
  obtain ⟨l0, r0⟩ := row_of_trod Tryz.underlying22 Tryz.underlying3 (by kernel_rfl) t0
  obtain ⟨l1, r1⟩ := row_of_trod Tryz.underlying22 Tryz.underlying3 (by kernel_rfl) t1
  exact ⟨(l0, l1), v0, v1, rfl, r0, r1⟩
theorem RvV.parts {W : World} {v : Value} {x : List Int × List Int} (h : RvV W v x) : ∃ live gone al cl ag cg, v = .agg #[.slice al live.length cl, .slice ag gone.length cg] ∧ Row .i64 W (.slice al live.length cl) live ∧ Row .i64 W (.slice ag gone.length cg) gone := by
  obtain ⟨vl, vg, rfl, rl, rg⟩ := h
  obtain ⟨al, cl, rfl⟩ := rl.shape x.1.length rfl
  obtain ⟨ag, cg, rfl⟩ := rg.shape x.2.length rfl
  exact ⟨x.1, x.2, al, cl, ag, cg, rfl, rl, rg⟩
theorem Rv.addR_len (live gone : List Int) (n : Int) : (Rv.addR live gone n).1.length ≤ live.length + 1 ∧ (Rv.addR live gone n).2.length ≤ gone.length := by
  unfold Rv.addR; split
  · simp [Rv.ins_length]
  · simp
theorem Rv.revR_len (live gone : List Int) (n : Int) : (Rv.revR live gone n).1.length ≤ live.length ∧ (Rv.revR live gone n).2.length ≤ gone.length + 1 := by
  unfold Rv.revR; split
  · simp [Rv.ins_length]
  · simp
theorem Rv.addR_zero {live gone : List Int} {n : Int} (h : Rv.addE live gone n = 0) : Rv.addR live gone n = (Rv.ins live n, gone) := by unfold Rv.addR; rw [if_pos h]
theorem Rv.addR_not {live gone : List Int} {n : Int} (h : ¬ Rv.addE live gone n = 0) : Rv.addR live gone n = ([], []) := by unfold Rv.addR; rw [if_neg h]
theorem Rv.revR_zero {live gone : List Int} {n : Int} (h : Rv.revE live gone n = 0) : Rv.revR live gone n = (live, Rv.ins gone n) := by unfold Rv.revR; rw [if_pos h]
theorem Rv.revR_not {live gone : List Int} {n : Int} (h : ¬ Rv.revE live gone n = 0) : Rv.revR live gone n = ([], []) := by unfold Rv.revR; rw [if_neg h]
end Go.Proofs.YtikgdpfnpcfkkaaGreatDoor
end
