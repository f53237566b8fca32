/-
  The walk over greatsealref10.with.
-/
import Derived.Test.YtfdchdnkblmijaaGreatDoorYq
import Derived.Test.YtfdchdnkblmijaaGreatDoorKg
import Derived.Test.YtfdchdnkblmijaaGreatDoorRs
import Derived.Test.YtfdchdnkblmijaaGreatDoorDd
import Derived.Deep.CutBlock
import Derived.Deep.AppendLies
import Derived.Deep.RegionLaw
namespace Go.Proofs.YtfdchdnkblmijaaGreatDoor
open Go.RowKit

namespace Cm
/-- A day and levels' bytes as a cascade. -/
def withR (day : Int) (bs : List (List Int)) : Except Int (Int × List Sm.Sv) := if chk day (lvs day 0 bs) = 0 then .ok (day, lvs day 0 bs) else .error 71
end Cm
/-- What with holds behind k levels. -/
structure WthI (day : Int) (B : Nat) (w wr : World) (bs : List (List Int)) (k : Nat) (pre : List Lvl) (v : Value) : Prop where
  len : pre.length = k
  c : Duo wr (B + 1) 24 (.int .i64 day) v
  own : wr.ownsRow (B + 2) 41 4 v k (levelCells pre)
  own8 : ∀ x ∈ pre, Own8 wr (B + 2) x
  lv : pre.map (·.s) = Cm.lvs day 0 (bs.take k)
  res : Duo wr B 24 (.int .i64 0) (.slice none 0 0)
  bel : Below w.heap.size w wr
  sz : B + 2 ≤ wr.heap.size
theorem WthI.step {day : Int} {B : Nat} {w wr V w5 : World} {bs : List (List Int)} {k : Nat} {pre : List Lvl} {v v' rb : Value} {b : List Int}
    (h : WthI day B w wr bs k pre v) (hB : w.heap.size = B) (hk : k < bs.length) (hb : bs[k]?.getD [] = b)
    (hV : Below wr.heap.size wr V) (hrb : V.ownsRow (B + 2) 5 1 rb b.length (b.map (Value.int .u8))) (hby : ∀ y ∈ b, byte y)
    (hg : V.grownBy w5 v.ownBlock) (own5 : w5.ownsRow (B + 2) 41 4 v' (k + 1) (levelCells pre ++ [.int .i64 (8 * (b.length : Int)), .int .i64 3, .int .i64 (Cm.sal day k), rb])) :
    WthI day B w (w5.setCell ⟨B + 1, 1, none⟩ v') bs (k + 1) (pre ++ [⟨k, Cm.lvOf day k b, rb, 0⟩]) v' := by
  have hgo : ∀ g, v.ownBlock = some g → B + 2 ≤ g ∧ g < wr.heap.size := fun g hg => World.ownsRow.lt h.own g hg
  have h25 : V.heap.size ≤ w5.heap.size := hg.size
  have ownV := owns_keep h.own hV
  have blkV : ∀ g, g < V.heap.size → some g ≠ v.ownBlock → g ≠ B + 1 → (w5.setCell ⟨B + 1, 1, none⟩ v').heap[g]? = V.heap[g]? := fun g hg1 hg2 hg3 =>
    (Below.heap_setCell w5 ⟨B + 1, 1, none⟩ v' g hg3).trans (hg.block g hg1 hg2)
  have low : ∀ g, g < B + 2 → some g ≠ v.ownBlock := fun g hg e => by have := hgo g e.symm; omega
  have hss : (w5.setCell ⟨B + 1, 1, none⟩ v').heap.size = w5.heap.size := by simp
  have hrs := hV.size
  have hsz := h.sz
  have keep8 : ∀ {u : Value} {n : Nat} {xs : List Value}, V.ownsRow (B + 2) 5 1 u n xs → (w5.setCell ⟨B + 1, 1, none⟩ v').ownsRow (B + 2) 5 1 u n xs := fun {u n xs} ho => by
    have hne := own_type_ne ho ownV (by decide)
    refine ⟨ho.1, ho.2.imp_right ?_⟩
    rintro ⟨g, cap, cur, e, h1, h2, r⟩
    refine ⟨g, cap, cur, e, h1, (blkV g (Array.getElem?_eq_some_iff.1 h2).1 (fun ee => ?_) (by omega)).trans h2, r⟩
    rcases hne with hne | hne
    · rw [e] at hne; simp [Value.ownBlock] at hne
    · rw [e] at hne; exact hne (by rw [← ee]; rfl)
  have d5 : Duo w5 (B + 1) 24 (.int .i64 day) v := (hg.block (B + 1) (by omega) (low _ (by omega))).trans ((hV.block (B + 1) (by omega)).trans h.c)
  refine ⟨by simp [h.len], d5.set1 v', ?_, ?_, ?_, ?_, ?_, by rw [hss]; omega⟩
  · rw [levelCells_snoc]
    refine ⟨own5.1, own5.2.imp_right ?_⟩
    rintro ⟨g, cap, cur, e, h1, h2, r⟩
    exact ⟨g, cap, cur, e, h1, (Below.heap_setCell w5 ⟨B + 1, 1, none⟩ v' g (by show g ≠ B + 1; omega)).trans h2, r⟩
  · intro y hy
    rcases List.mem_append.1 hy with hy | hy
    · exact ⟨keep8 (owns_keep (h.own8 y hy).1 hV), (h.own8 y hy).2⟩
    · rw [List.mem_singleton.1 hy]; exact ⟨keep8 hrb, hby⟩
  · rw [List.map_append, h.lv]
    have e : bs.take (k + 1) = bs.take k ++ [b] := by
      rw [List.take_add_one, List.getElem?_eq_getElem hk]
      rw [List.getElem?_eq_getElem hk] at hb
      rw [← hb]; rfl
    rw [e, Cm.lvs_snoc, List.length_take, Nat.min_eq_left (by omega), Nat.zero_add]; rfl
  · exact (blkV B (by omega) (low B (by omega)) (by omega)).trans ((hV.block B (by omega)).trans h.res)
  · refine ⟨?_, ?_, ?_, ?_, fun g hg1 => ?_⟩
    · exact hg.os.trans (hV.os.trans h.bel.os)
    · exact hg.tape.trans (hV.tape.trans h.bel.tape)
    · exact hg.output.trans (hV.output.trans h.bel.output)
    · rw [hss]; have := h.bel.size; omega
    · have := h.bel.size
      exact (blkV g (by omega) (low g (by omega)) (by omega)).trans ((hV.block g (by omega)).trans (h.bel.block g hg1))
/-- An append to own bytes, at a step of a region that draws. -/
theorem step_app {ops : Array Oper} {w : World} {o : Oper} {a : Act} {K : Act → World → Prop} {Q : Exit → Act → World → Prop} {E : Prop} (hgd : o.guard = none) (s x : Operand)
    (ho : o.op = .call { callee := .builtin .append, args := #[s, x], argTypes := #[25, 25] }) (base : Nat) (hbase : base ≤ w.heap.size)
    (v : Value) (ms : List Int) (hs : a.eval s = v) (hown : OwnB w base v ms) (xv : Value) (ns : List Int) (hrow : Row .u8 w xv ns) (hx : a.eval x = xv) (h63 : ms.length + ns.length ≤ 10000000)
    (h : ∀ v' w', Appd w w' base v v' (ms ++ ns) → K (a.put o.dst v') w') : if Region.wanted o (yielded ops a.tmps) = true then Oper.wp Tryz.prog o a w K Q else E := by
  have hw : Region.wanted o (yielded ops a.tmps) = true := by simp [Region.wanted, hgd]
  rw [if_pos hw]
  exact wp_app s x ho base hbase v ms hs hown xv ns hrow hx h63 h

set_option maxRecDepth 100000 in
set_option maxHeartbeats 4000000 in
theorem with10_any (day : Int) (v : Value) (bs : List (List Int)) (w : World) (h : Rws .u8 w v bs) (hbl : bs.length ≤ 8192) (hbs : ∀ b ∈ bs, b.length ≤ 10000) :
    Calls Tryz.prog 35 #[.int .i64 day, v] w fun e w' => CascR w' e (Cm.withR day bs) ∧ Below w.heap.size w w' := by
  obtain ⟨a, c, rfl, -⟩ := h.shape
  obtain ⟨B, hB⟩ : ∃ B, w.heap.size = B := ⟨_, rfl⟩
  obtain ⟨Z, hZ⟩ : ∃ Z, Cm.withR day bs = Z := ⟨_, rfl⟩
  rw [hZ]
  have q0 := (Duo.new w 24 (.int .i64 0) (.slice none 0 0)).alloc (.cells #[.int .i64 day, .slice none 0 0] 24)
  have q1 := Duo.new (w.alloc (.cells #[.int .i64 0, .slice none 0 0] 24)) 24 (.int .i64 day) (.slice none 0 0)
  have hb0 := ((Below.refl w.heap.size w).alloc (Nat.le_refl _) (.cells #[.int .i64 0, .slice none 0 0] 24)).alloc (by simp) (.cells #[.int .i64 day, .slice none 0 0] 24)
  have hsz : ((w.alloc (.cells #[.int .i64 0, .slice none 0 0] 24)).alloc (.cells #[.int .i64 day, .slice none 0 0] 24)).heap.size = B + 2 := by simp [hB]
  rw [World.size_alloc] at q1
  obtain ⟨W, hW⟩ : ∃ W, (w.alloc (.cells #[.int .i64 0, .slice none 0 0] 24)).alloc (.cells #[.int .i64 day, .slice none 0 0] 24) = W := ⟨_, rfl⟩
  rw [hW] at q0 q1 hb0 hsz
  rw [hB] at q0 q1
  have hI0 : WthI day B w W bs 0 [] (.slice none 0 0) := ⟨rfl, q1, World.ownsRow_nil _ _ _ _, (fun x hx => by cases hx), rfl, q0, hb0, by rw [hsz]; exact Nat.le_refl _⟩
  have HI0 := Lib.hid hI0; have HW := Lib.hid hW; have HB := Lib.hid hB; have HZ := Lib.hid hZ; have HR := Lib.hid h; have HBS := Lib.hid hbs
  clear hI0 hW hB hZ hb0 hsz q0 q1 h hbs
  go_enter Tryz.func35, Tryz.ntmps35
  go_wp2_with fail
  rw [HW.out, HB.out]
  (try go_wp2_with fail)
  go_loopw [7] (fun i wr => ∃ (k : Nat) (pre : List Lvl) (v : Value), i = .int .i64 k ∧ k ≤ bs.length ∧ WthI day B w wr bs k pre v) (fun i _ => bs.length - (intOf i).toNat)
  case atStart => exact ⟨0, [], _, rfl, Nat.zero_le _, HI0.out⟩
  case round =>
    obtain ⟨k, pre, v, rfl, hk, hI⟩ := hrel
    have k0 : (0 : Int) ≤ (k : Int) := by omega
    obtain ⟨va, vn, vc, rfl⟩ := owns_slice hI.own
    have hC := hI.c
    have HI := Lib.hid hI
    by_cases hlt : k < bs.length
    case neg =>
      obtain rfl : k = bs.length := by omega
      have hlv : Cm.lvs day 0 bs = pre.map (·.s) := by rw [hI.lv, List.take_length]
      have hsv : Svs wr (.slice va vn vc) (Cm.lvs day 0 bs) := by
        rw [hlv]
        exact svs_of (by rw [hI.len]; exact hI.own) hI.own8
      obtain ⟨nL, hnL⟩ : ∃ nL, (Cm.lvs day 0 bs).length = nL := ⟨_, rfl⟩
      have hvn : vn = nL := by
        obtain ⟨_, _, e', -⟩ := hsv
        cases e'; exact hnL
      subst hvn
      have hCk := Check10_any day (.slice va vn vc) (Cm.lvs day 0 bs) wr hsv (by rw [Cm.lvs_len]; omega)
      obtain ⟨E, hE⟩ : ∃ E, Cm.chk day (Cm.lvs day 0 bs) = E := ⟨_, rfl⟩
      have hz : Z = if E = 0 then .ok (day, Cm.lvs day 0 bs) else .error 71 := by rw [← HZ.out, ← hE]; rfl
      rw [hE] at hCk
      have y0 := hC.cell0; have y1 := hC.cell1; have yl := hC.lt
      have HZ2 := Lib.hid hz; have HSv := Lib.hid hsv; have HC := Lib.hid hC; have HNL := Lib.hid hnL
      clear hI hz hC hsv hE hnL hlt hlv
      go_wp2_with fail
      refine hCk.mono ?_; rintro e w2 ⟨rfl, hb2⟩
      have c2 := HC.out.stp hb2; have s2 := HSv.out.below hb2
      have res2 : Duo w2 B 24 (.int .i64 0) (.slice none 0 0) := HI.out.res.stp hb2
      have bel2 : Below w.heap.size w w2 := HI.out.bel.trans (hb2.mono HI.out.bel.size)
      clear hCk y0 y1 yl
      have y0 := c2.cell0; have y1 := c2.cell1; have yl := c2.lt
      have r0 := res2.cell0; have r1 := res2.cell1; have rl := res2.lt
      have f0 : w2.frozen? ⟨B, 0, none⟩ = false := res2.free 0
      have f1 : w2.frozen? ⟨B, 1, none⟩ = false := res2.free 1
      have S2' := Lib.hid s2; have RES2 := Lib.hid res2; have BEL2 := Lib.hid bel2
      clear hb2 s2 res2 c2 bel2
      by_cases h0 : E = 0
      · subst h0
        have hz3 : Z = .ok (day, Cm.lvs day 0 bs) := by rw [HZ2.out, if_pos rfl]
        have HZ3 := Lib.hid hz3
        clear hz3
        go_wp2_with fail
        refine bodyPost_ret (casc_none rfl rfl rfl (duo_casc2 RES2.out _ _)) rfl ?_
        rw [HZ3.out]
        exact ⟨⟨va, vc, by rw [HNL.out]; rfl, by rw [HNL.out]; exact svs_set2 S2'.out RES2.out _ _⟩, (BEL2.out.setCell (by rw [HB.out]; exact Nat.le_refl _) _).setCell (by rw [HB.out]; exact Nat.le_refl _) _⟩
      · have hz3 : Z = .error 71 := by rw [HZ2.out, if_neg h0]
        have HZ3 := Lib.hid hz3
        clear hz3
        go_wp2_with fail
        refine bodyPost_ret (casc_none rfl rfl rfl (duo_casc2 RES2.out _ _)) rfl ?_
        rw [HZ3.out]
        exact ⟨rfl, (BEL2.out.setCell (by rw [HB.out]; exact Nat.le_refl _) _).setCell (by rw [HB.out]; exact Nat.le_refl _) _⟩
    have k1 : (k : Int) < (bs.length : Int) := by omega
    have e1 : IntKind.i64.wrap ((k : Int) + 1) = (k : Int) + 1 := IntWalk.i64_in _ (by omega)
    obtain ⟨b, hb⟩ : ∃ b, bs[k]?.getD [] = b := ⟨_, rfl⟩
    have hbm : b.length ≤ 10000 := by
      rw [List.getElem?_eq_getElem hlt] at hb
      exact HBS.out b (by rw [← hb]; exact List.getElem_mem _)
    obtain ⟨_, _, V, e', -, -, -, hr, hv⟩ := HR.out
    cases e'
    obtain ⟨bk, off, rfl, hbk, hx⟩ := hr (by rintro rfl; simp at hlt)
    have hbB : bk < B := by rw [← HB.out]; exact hbk
    have xc := (HI.out.bel.cell (p := ⟨bk, off + k, none⟩) hbk).trans (hx k hlt)
    have xr := (hv k hlt).below HI.out.bel
    rw [hb] at xr
    obtain ⟨nb, hnb⟩ : ∃ n, b.length = n := ⟨_, rfl⟩
    obtain ⟨ab, cb, hVk⟩ := xr.shape nb hnb
    rw [hVk] at xc xr
    have e8 : IntKind.i64.wrap (8 * (nb : Int)) = 8 * (nb : Int) := IntWalk.i64_in _ (by omega)
    obtain ⟨y, hy⟩ : ∃ y, IntKind.i64.wrap (16 * day) = y := ⟨_, rfl⟩
    obtain ⟨z, hz⟩ : ∃ z, Cm.sal day k = z := ⟨_, rfl⟩
    have hyz : IntKind.i64.wrap (y + (k : Int)) = z := by rw [← hz, ← hy]; rfl
    obtain ⟨i0, hinfo, hz0, hz1, hz2⟩ := info_parts info_sieve
    have y0 := hC.cell0; have y1 := hC.cell1; have yl := hC.lt
    have f1 : wr.frozen? ⟨B + 1, 1, none⟩ = false := hC.free 1
    have nbB : ¬ B + 1 = bk := by omega
    have nbB2 : ¬ bk = B + 1 := by omega
    have hbkr : bk < wr.heap.size := by omega
    have hk9 : k + 1 ≤ 8192 := by omega
    have Hb := Lib.hid hb; have HNB := Lib.hid hnb; have HZS := Lib.hid hz; have XR := Lib.hid xr; have HC := Lib.hid hC; have HBM := Lib.hid hbm
    clear hr hv hx hVk hb hnb hz xr hI hC hbm hbk
    go_upto_region 5 with fail
    go_region_law (first
      | (refine step_app rfl (.tmp 28) (.tmp 32) rfl (B + 2) (by have := HI.out.sz; simp; omega) (.slice (some ⟨wr.heap.size, 0, none⟩) 0 0) [] rfl (owns_empty' _ _ _ _ HI.out.sz rfl) (.slice ab nb cb) b (XR.out.below (((Below.refl wr.heap.size wr).drew).alloc (Nat.le_refl _) _)) rfl (by have := HNB.out; have := HBM.out; simp; omega) ?_
         intro v4 w4 ap4
         obtain ⟨a4, n4, c4, rfl⟩ := owns_slice ap4.own
         have hW4 : Below wr.heap.size wr w4 := (((Below.refl wr.heap.size wr).alloc (Nat.le_refl _) _).drew).grown ap4.grown (by simp) (fun k e => by simp [Value.ownBlock] at e; omega)
         have xc4 : w4.cell? ⟨bk, off + k, none⟩ = some (.slice ab nb cb) := (hW4.cell (p := ⟨bk, off + k, none⟩) hbkr).trans xc
         have y4 : w4.cell? ⟨B + 1, 1, none⟩ = some (.slice va vn vc) := (hW4.cell (p := ⟨B + 1, 1, none⟩) yl).trans y1
         have l4 : B + 1 < w4.heap.size := Nat.lt_of_lt_of_le yl hW4.size
         have lb4 : bk < w4.heap.size := Nat.lt_of_lt_of_le hbkr hW4.size)
      | (refine step_append_lies _ rfl (.tmp 17) (.tmp 35) 22 rfl (B + 2) 41 i0 (.agg #[.int .i64 0, .int .i64 0, .int .i64 0, .slice none 0 0]) 4 48 Tryz.underlying22 hinfo hz0 hz1 hz2 rfl (by decide) (.slice va vn vc) k (levelCells pre) rfl (owns_keep (owns_keep HI.out.own hW4) ((Below.refl w4.heap.size w4).alloc (Nat.le_refl _) _)) ⟨w4.heap.size, 0, none⟩ 1 1 [.int .i64 (8 * (nb : Int)), .int .i64 3, .int .i64 z, .slice a4 n4 c4] rfl rfl (cells_new4 w4 _ _) (by intro u hu; simp at hu; rcases hu with rfl | rfl | rfl | rfl <;> rfl) (by decide) (by unfold maxLen; omega) (by omega) (by have := HI.out.sz; have := hW4.size; simp; omega) _ rfl ?_
         intro g5 c5 w5 own5 hgrow hat hlt5
         have nv : ∀ g, g < B + 2 → some g ≠ (Value.slice va vn vc).ownBlock := fun g hg e => by have := World.ownsRow.lt HI.out.own g e.symm; omega
         have xc5 : w5.cell? ⟨bk, off + k, none⟩ = some (.slice ab nb cb) := (hgrow.cell_far ⟨bk, off + k, none⟩ (by have := hW4.size; simp; omega) (nv bk (by omega))).trans ((((Below.refl w4.heap.size w4).alloc (Nat.le_refl _) _).cell (p := ⟨bk, off + k, none⟩) (by have := hW4.size; show bk < w4.heap.size; omega)).trans xc4)
         have d5 : Duo w5 (B + 1) 24 (.int .i64 day) (.slice va vn vc) := (hgrow.block (B + 1) (by simp; omega) (nv _ (by omega))).trans ((((Below.refl w4.heap.size w4).alloc (Nat.le_refl _) _).block (B + 1) l4).trans ((hW4.block (B + 1) yl).trans HC.out))
         have y1' := d5.cell1; have g1' : w5.frozen? ⟨B + 1, 1, none⟩ = false := d5.free 1; have l5' := d5.lt)
      | fail)
    all_goals
      have own4 : w4.ownsRow (B + 2) 5 1 (.slice a4 n4 c4) b.length (b.map (Value.int .u8)) := by have := ap4.own; rwa [List.nil_append] at this
      go_wp2_with fail
      go_roundw
      case rel =>
        exact ⟨k + 1, _, .slice (some ⟨g5, 0, none⟩) (k + 1) c5, by go_num, by omega, HI.out.step HB.out hlt Hb.out (hW4.alloc hW4.size _) (owns_keep own4 ((Below.refl w4.heap.size w4).alloc (Nat.le_refl _) _)) XR.out.all_byte hgrow (by rw [HNB.out, HZS.out]; exact own5)⟩
      case measure => simp [intOf]; omega
end Go.Proofs.YtfdchdnkblmijaaGreatDoor
