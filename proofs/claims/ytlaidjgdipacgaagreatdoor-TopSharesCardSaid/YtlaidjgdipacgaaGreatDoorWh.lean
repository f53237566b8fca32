/-
  The texts Ia Ib Ic Id Ie If in one. (Merged by wip/lay12m.py.)
-/
import Derived.Test.YtlaidjgdipacgaaGreatDoorWj
import Derived.Test.YtlaidjgdipacgaaGreatDoorWg
import Derived.Lib.AtoiErrMem
import Derived.Deep.AppendLies
import Derived.Deep.RegionLaw
import Derived.Deep.CutBlock
import Derived.Defers
import Derived.Recover

section
namespace Go.Proofs.YtlaidjgdipacgaaGreatDoor
open Go.RowKit Go.Shelf

theorem Row.cutif {k : IntKind} {w : World} {a : Option Addr} {n cap : Nat} {l : List Int} (h : Row k w (.slice a n cap) l) (m : Nat) (hm : m ≤ l.length) : Row k w (.slice (if cap = m then a else Option.map (fun x => x.add m) a) (n - m) (cap - m)) (l.drop m) := by
  have h' := h
  obtain ⟨a', c', e, hl, -⟩ := h'
  cases e
  by_cases q : cap = m
  · rw [if_pos q, show cap - m = 0 by omega]
    exact h.cut_all m hm (by omega)
  · rw [if_neg q]; exact h.cut m hm (by omega)
/-- A row's bytes, as the shelf says them. -/
theorem Row.bytesIn {w : World} {a : Option Addr} {n c : Nat} {l : List Int} (h : Row .u8 w (.slice a n c) l) : l.length = n ∧ n ≤ c ∧ c ≤ 9223372036854775807 ∧ Lib.BytesIn w a n l ∧ ∀ x ∈ l, 0 ≤ x ∧ x < 256 := by
  have hb := h.all_byte
  obtain ⟨a', c', e, h1, h2, h3, h4, h5⟩ := h
  cases e
  refine ⟨rfl, h1, h2, fun h0 => ?_, fun x hx => by have := hb x hx; unfold byte at this; omega⟩
  obtain ⟨b, o, rfl, -, hc⟩ := h5 (by rintro rfl; simp at h0)
  exact ⟨b, o, rfl, fun i hi => by rw [hc i hi]; simp [List.getD]⟩

/-- The bytes of words. -/
def wordsL : List UInt8 := [97, 98, 99, 100, 101, 102, 103, 104, 105, 106, 107, 108, 109, 110, 111, 112, 113, 114, 115, 116, 117, 118, 119, 120, 121, 122, 48, 49, 50, 51, 52, 53, 54, 55, 56, 57, 45, 42, 46, 95]
/-- How many bytes are left behind those of words. -/
def leftOf (l : List Int) : Nat := (Lib.trimLeftS (Lib.bytesOf l) wordsL).length

theorem info_bset : (Tryz.prog.info? 155).map (fun i => (i.zero, i.size)) = some (some (.agg (Array.replicate 256 (.bool false))), 256) := by kernel_rfl
theorem info_sset : (Tryz.prog.info? 183).map (fun i => (i.zero, i.size)) = some (some (.agg (Array.replicate 256 (.bool false))), 256) := by kernel_rfl
theorem leftOf_le (l : List Int) : leftOf l ≤ l.length := by
  unfold leftOf Lib.trimLeftS
  have := (List.dropWhile_suffix (l := Lib.bytesOf l) (fun x => List.contains wordsL x)).length_le
  rw [Lib.bytesOf_length] at this
  exact this
theorem TrimLeft_any (a : Option Addr) (n c : Nat) (l : List Int) (w : World) (h : Row .u8 w (.slice a n c) l) :
    Calls Tryz.prog 65 #[.slice a n c, .string { data := #[97, 98, 99, 100, 101, 102, 103, 104, 105, 106, 107, 108, 109, 110, 111, 112, 113, 114, 115, 116, 117, 118, 119, 120, 121, 122, 48, 49, 50, 51, 52, 53, 54, 55, 56, 57, 45, 42, 46, 95] }] w fun e w' => (∃ a' c', e = .returned (.slice a' (leftOf l) c')) ∧ Below w.heap.size w w' := by
  obtain ⟨h1, h2, h3, h4, h5⟩ := h.bytesIn
  refine (Any.bytes_TrimLeft_laid (Sh.laysV8) info_bset a n c l _ w h1 h2 h3 h4 h5 (by decide) (ascii_of_all (by decide))).mono ?_
  rintro e w' ⟨he, hb⟩
  refine ⟨?_, hb⟩
  have he' : e = .returned (Lib.leftV a n c (n - leftOf l)) := he
  have hl := leftOf_le l
  rw [he']
  unfold Lib.leftV
  by_cases q : n - leftOf l = n
  · rw [if_pos q]
    have : leftOf l = 0 := by omega
    rw [this]
    exact ⟨none, 0, rfl⟩
  · rw [if_neg q]
    unfold Lib.fromV
    rw [show n - (n - leftOf l) = leftOf l by omega]
    exact ⟨_, _, rfl⟩
end Go.Proofs.YtlaidjgdipacgaaGreatDoor
end

section
namespace Go.Proofs.YtlaidjgdipacgaaGreatDoor
open Go.RowKit Go.Shelf
attribute [local go_sem] Oper.semAt_some

/-- The text of the example. -/
def txt : List Int := [97, 108, 108, 111, 119, 32, 119, 101, 98, 32, 123, 32, 42, 46, 97, 59, 32, 108, 105, 102, 101, 32, 57, 59, 32, 125]
theorem txt_length : txt.length = 26 := rfl

theorem Row.only {k : IntKind} {w w' : World} {S : Nat → Prop} {b o n c : Nat} {l : List Int} (h : Row k w (.slice (some ⟨b, o, none⟩) n c) l) (ho : Only S w w') (hb : ¬ S b) : Row k w' (.slice (some ⟨b, o, none⟩) n c) l := by
  obtain ⟨a', c', e, h1, h2, h3, h4, h5⟩ := h
  cases e
  refine ⟨_, _, rfl, h1, h2, h3, h4, fun hne => ?_⟩
  obtain ⟨b', o', e, hlt, hc⟩ := h5 hne
  cases e
  exact ⟨_, _, rfl, Nat.lt_of_lt_of_le hlt ho.size, fun i hi => (ho.cell (p := ⟨b, o + i, none⟩) hlt hb).trans (hc i hi)⟩

/-- A reader of the text: where it is, its token. -/
structure Rdr (w : World) (G tb c : Nat) (k : Int) (tok : ByteArray) : Prop where
  blk : Blk w G 87 [.slice (some ⟨tb, 0, none⟩) 26 c, .int .i64 k, .string tok]
  row : Row .u8 w (.slice (some ⟨tb, 0, none⟩) 26 c) txt
  ne : tb ≠ G
theorem Rdr.only {w w' : World} {S : Nat → Prop} {G tb c : Nat} {k : Int} {tok : ByteArray} (h : Rdr w G tb c k tok) (ho : Only S w w') (hb : ¬ S tb) (hG : ¬ S G) : Rdr w' G tb c k tok :=
  ⟨h.blk.kept (ho.block G h.blk.lt hG), h.row.only ho hb, h.ne⟩
theorem Rdr.below {w w' : World} {G tb c : Nat} {k : Int} {tok : ByteArray} (h : Rdr w G tb c k tok) (hb : Below w.heap.size w w') : Rdr w' G tb c k tok :=
  ⟨h.blk.below hb, h.row.below hb, h.ne⟩
theorem Rdr.setAt {w : World} {G tb c : Nat} {k : Int} {tok : ByteArray} (h : Rdr w G tb c k tok) (i : Int) : Rdr (w.setCell ⟨G, 1, none⟩ (.int .i64 i)) G tb c i tok :=
  ⟨h.blk.set 1 _, h.row.only ((Only.refl (· = G) w).setCell (.inl rfl) _) h.ne, h.ne⟩
theorem Rdr.setTok {w : World} {G tb c : Nat} {k : Int} {tok : ByteArray} (h : Rdr w G tb c k tok) (t : ByteArray) : Rdr (w.setCell ⟨G, 2, none⟩ (.string t)) G tb c k t :=
  ⟨h.blk.set 2 _, h.row.only ((Only.refl (· = G) w).setCell (.inl rfl) _) h.ne, h.ne⟩

set_option maxRecDepth 100000 in
set_option maxHeartbeats 400000 in
theorem next_any (i p n0 n : Nat) (tok' : ByteArray) {G tb c : Nat} {k : Int} {tok : ByteArray} (w : World) (h : Rdr w G tb c k tok) (hi : k + (tok.size : Int) = i) (hip : i ≤ p) (hp : p ≤ 26)
    (hsp : ∀ j, i ≤ j → j < p → txt[j]?.getD 0 = 32) (hst : p < 26 → txt[p]?.getD 0 ≠ 32 ∧ txt[p]?.getD 0 ≠ 10 ∧ txt[p]?.getD 0 ≠ 35)
    (hn0 : (26 - p) - leftOf (txt.drop p) = n0) (hn : (if n0 = 0 then min 1 (26 - p) else n0) = n) (ht : strOfNums ((txt.drop p).take n) = tok') :
    Calls Tryz.prog 40 #[.pointer (some ⟨G, 0, none⟩)] w fun e w' => (∃ v, e = .returned v) ∧ Rdr w' G tb c p tok' ∧ Only (· = G) w w' := by
  have c0 := h.blk.cell 0 _ rfl; have c1 := h.blk.cell 1 _ rfl; have c2 := h.blk.cell 2 _ rfl
  have f1 := h.blk.free 1; have f2 := h.blk.free 2
  have lG := h.blk.lt
  have e1 : IntKind.i64.wrap (k + (tok.size : Int)) = (i : Int) := by rw [hi]; exact IntWalk.i64_in _ (by omega)
  have H := Lib.hid h; have HI := Lib.hid hi; have HIP := Lib.hid hip; have HP := Lib.hid hp; have HSP := Lib.hid hsp; have HST := Lib.hid hst; have HN0 := Lib.hid hn0; have HN := Lib.hid hn; have HT := Lib.hid ht
  clear h hi hip hp hsp hst hn0 hn ht
  go_enter Tryz.func40, Tryz.ntmps40
  go_wp2_with fail
  go_region
  have hR := H.out.setAt (i : Int)
  have hO : Only (· = G) w (w.setCell ⟨G, 1, none⟩ (.int .i64 i)) := (Only.refl (· = G) w).setCell (.inl rfl) _
  obtain ⟨W0, hW0⟩ : ∃ W, w.setCell ⟨G, 1, none⟩ (.int .i64 i) = W := ⟨_, rfl⟩
  rw [hW0] at hR hO ⊢
  have HR := Lib.hid hR; have HO := Lib.hid hO
  clear hR hO hW0 c0 c1 c2 f1 f2 lG e1
  go_wp2_with fail
  go_loopg [] (p - i) (fun g wr => ∃ j : Nat, i ≤ j ∧ j + g = p ∧ Rdr wr G tb c j tok ∧ Only (· = G) w wr)
  case atStart => exact ⟨i, Nat.le_refl _, by have := HIP.out; omega, HR.out.below (Below.refl _ _).drew, HO.out.drew⟩
  case round =>
    obtain ⟨j, hij, hjg, hr, ho⟩ := hrel
    have c0 := hr.blk.cell 0 _ rfl; have c1 := hr.blk.cell 1 _ rfl
    have f1 := hr.blk.free 1; have lG := hr.blk.lt
    have q0 : (0 : Int) ≤ (j : Int) := by omega
    have hrow : j < 26 → wr.cell? ⟨tb, j, none⟩ = some (.int .u8 (txt[j]?.getD 0)) := fun hj => by
      have := hr.row
      obtain ⟨a', c', e, h1, h2, h3, h4, h5⟩ := this
      cases e
      obtain ⟨b', o', e, hlt, hc⟩ := h5 (by decide)
      cases e
      have := hc j hj
      rw [Nat.zero_add] at this
      exact this
    have hp := HP.out
    cases gk with
    | succ g =>
      have hx := hrow (by omega)
      rw [HSP.out j hij (by omega)] at hx
      have q1 : (j : Int) < 26 := by omega
      have e1 : IntKind.i64.wrap ((j : Int) + 1) = (j : Int) + 1 := IntWalk.i64_in _ (by omega)
      have Hr := Lib.hid hr; have Ho := Lib.hid ho; have HJ := Lib.hid hij; have HG := Lib.hid hjg
      clear hr ho hij hjg hrow hp
      go_wp2_with fail
      go_region
      go_wp2_with fail
      go_region
      go_wp2_with fail
      go_roundg g
      case measure => omega
      case rel => exact ⟨j + 1, by have := HJ.out; omega, by have := HG.out; omega, (Hr.out.setAt _).below ((Below.refl _ _).drew.drew), (Ho.out.setCell (p := ⟨G, 1, none⟩) (.inl rfl) _).drew.drew⟩
    | zero =>
      obtain rfl : j = p := by omega
      by_cases hj : j < 26
      · have hx := hrow hj
        obtain ⟨s1, s2, s3⟩ := HST.out hj
        have q1 : (j : Int) < 26 := by omega
        obtain ⟨x, hxx⟩ : ∃ x, txt[j]?.getD 0 = x := ⟨_, rfl⟩
        rw [hxx] at hx s1 s2 s3
        have t1 : (x == 32) = false := beq_eq_false_iff_ne.2 s1
        have t2 : (x == 10) = false := beq_eq_false_iff_ne.2 s2
        have t3 : (x == 35) = false := beq_eq_false_iff_ne.2 s3
        have hcap : 26 ≤ c := by obtain ⟨a', c', e, h1, -⟩ := hr.row; cases e; exact h1
        have rw' := Row.drop hr.row j (by rw [txt_length]; omega)
        rw [Nat.zero_add] at rw'
        have rw' := rw'.drew.drew.drew
        have hcj : c ≠ j := by omega
        have hcj' : ¬ ((c : Int) < j) := by omega
        obtain ⟨m, hm⟩ : ∃ m, 26 - j = m := ⟨_, rfl⟩
        obtain ⟨d, hd⟩ : ∃ d, c - j = d := ⟨_, rfl⟩
        have hdl : (txt.drop j).length = m := by rw [List.length_drop, txt_length]; exact hm
        have hlf := leftOf_le (txt.drop j)
        have TL := fun W h => TrimLeft_any (some ⟨tb, j, none⟩) m d (txt.drop j) W h
        obtain ⟨lf, hlf'⟩ : ∃ lf, leftOf (txt.drop j) = lf := ⟨_, rfl⟩
        have hn0 := HN0.out; have hn := HN.out
        rw [hm, hd] at rw'
        rw [hlf'] at TL hlf hn0
        rw [hm] at hn0 hn
        have m1 : 1 ≤ m := by omega
        have e2 : wrap64 ((m : Int) - (lf : Int)) = (n0 : Int) := by
          rw [show (m : Int) - (lf : Int) = (n0 : Int) by omega]; unfold wrap64; omega
        have rd := hr.below ((Below.refl wr.heap.size wr).drew.drew.drew)
        have o2 := ho.drew.drew.drew
        have RW := Lib.hid rw'; have RD := Lib.hid rd; have Ho2 := Lib.hid o2; have RWL := Lib.hid hdl; have HM := Lib.hid hm; have HD := Lib.hid hd
        by_cases hz : n0 = 0
        · rw [if_pos hz, Nat.min_eq_left m1] at hn
          subst hz; subst hn
          have mn : min (1 : Int) (m : Int) = 1 := by omega
          have b1 : (0 : Int) ≤ 1 ∧ (1 : Int) ≤ (d : Int) := by omega
          have e3 : wrap64 ((m : Int) - (lf : Int)) = 0 := e2
          have M1 := Lib.hid m1
          clear hr ho hij hjg hrow hp s1 s2 s3 hxx HSP HST rw' rd o2 hdl hm hd hlf hlf' hn0 e2 m1
          go_wp2_with fail
          go_region
          go_wp2_with fail
          go_region
          go_wp2_with fail
          go_region
          rw [HM.out, HD.out]
          go_wp2_with (first
            | (go_at_call 65
               refine (TL _ (by exact RW.out)).mono ?_
               rintro e w1 ⟨⟨a1, c1', rfl⟩, hb1⟩
               have r1 := RD.out.below hb1
               have x2 := r1.blk.cell 2 _ rfl
               have y2 := r1.blk.free 2
               have l2 := r1.blk.lt
               have cv := (Row.take (RW.out.below hb1) 1 (by rw [RWL.out]; exact M1.out)).convert
               have R1 := Lib.hid r1; have Hb1 := Lib.hid hb1
               clear r1 hb1)
            | fail)
          go_end0
          refine ⟨⟨_, rfl⟩, ?_, ?_⟩
          · have := R1.out.setTok (strOfNums ((txt.drop j).take 1))
            rw [HT.out] at this ⊢
            exact this
          · exact (Ho2.out.trans (Only.of_below Hb1.out _)).setCell (p := ⟨G, 2, none⟩) (.inl rfl) _
        · rw [if_neg hz] at hn
          subst hn
          have z1 : ((n0 : Int) == 0) = false := beq_eq_false_iff_ne.2 (by omega)
          have b1 : (0 : Int) ≤ (n0 : Int) ∧ (n0 : Int) ≤ (d : Int) := by omega
          have hnm : n0 ≤ m := by omega
          have HNM := Lib.hid hnm
          clear hr ho hij hjg hrow hp s1 s2 s3 hxx HSP HST rw' rd o2 hdl hm hd hlf hlf' hn0 m1 hz hnm
          go_wp2_with fail
          go_region
          go_wp2_with fail
          go_region
          go_wp2_with fail
          go_region
          rw [HM.out, HD.out]
          go_wp2_with (first
            | (go_at_call 65
               refine (TL _ (by exact RW.out)).mono ?_
               rintro e w1 ⟨⟨a1, c1', rfl⟩, hb1⟩
               have r1 := RD.out.below hb1
               have x2 := r1.blk.cell 2 _ rfl
               have y2 := r1.blk.free 2
               have l2 := r1.blk.lt
               have cv := (Row.take (RW.out.below hb1) n0 (by rw [RWL.out]; exact HNM.out)).convert
               have R1 := Lib.hid r1; have Hb1 := Lib.hid hb1
               clear r1 hb1)
            | fail)
          go_end0
          refine ⟨⟨_, rfl⟩, ?_, ?_⟩
          · have := R1.out.setTok (strOfNums ((txt.drop j).take n0))
            rw [HT.out] at this ⊢
            exact this
          · exact (Ho2.out.trans (Only.of_below Hb1.out _)).setCell (p := ⟨G, 2, none⟩) (.inl rfl) _
      · obtain rfl : j = 26 := by omega
        have hcap : 26 ≤ c := by obtain ⟨a', c', e, h1, -⟩ := hr.row; cases e; exact h1
        have rw' := (hr.row.cutif 26 (by rw [txt_length]; omega)).drew.drew
        rw [show (26 - 26 : Nat) = 0 from rfl, show txt.drop 26 = [] from rfl] at rw'
        have hn0 := HN0.out; have hn := HN.out
        have ht := HT.out
        rw [show leftOf (txt.drop 26) = 0 by decide] at hn0
        have hn0' : n0 = 0 := by omega
        subst hn0'
        have hn' : n = 0 := by rw [← hn]; decide
        subst hn'
        rw [show strOfNums ((txt.drop 26).take 0) = ⟨#[]⟩ by decide] at ht
        subst ht
        have TL := fun a d W h => TrimLeft_any a 0 d [] W h
        rw [show leftOf [] = 0 by decide] at TL
        have rd := hr.below ((Below.refl wr.heap.size wr).drew.drew)
        have o2 := ho.drew.drew
        have mn : min (1 : Int) 0 = 0 := by decide
        have RD := Lib.hid rd; have Ho2 := Lib.hid o2
        have ho2 := Ho2.out
        by_cases hcj : c = 26
        · subst hcj
          rw [if_pos rfl] at rw'
          have RW := Lib.hid rw'
          clear hr ho hij hjg hrow hp HSP HST rw' rd o2 hn hn0 ho2
          go_wp2_with fail
          go_region
          go_wp2_with fail
          go_region
          go_wp2_with (first
            | (go_at_call 65
               refine (TL _ 0 _ (by exact RW.out)).mono ?_
               rintro e w1 ⟨⟨a1, c1', rfl⟩, hb1⟩
               have r1 := RD.out.below hb1
               have x2 := r1.blk.cell 2 _ rfl
               have y2 := r1.blk.free 2
               have l2 := r1.blk.lt
               have cv := (Row.take (RW.out.below hb1) 0 (by omega)).convert
               have R1 := Lib.hid r1; have Hb1 := Lib.hid hb1
               clear r1 hb1)
            | fail)
          go_end0
          refine ⟨⟨_, rfl⟩, ?_, ?_⟩
          · exact R1.out.setTok ⟨#[]⟩
          · exact (Ho2.out.trans (Only.of_below Hb1.out _)).setCell (p := ⟨G, 2, none⟩) (.inl rfl) _
        · have rw' := (Row.drop hr.row 26 (by rw [txt_length]; omega)).drew.drew
          rw [Nat.zero_add, show (26 - 26 : Nat) = 0 from rfl, show txt.drop 26 = [] from rfl] at rw'
          have hcj' : ¬ ((c : Int) < 26) := by omega
          obtain ⟨d, hd⟩ : ∃ d, c - 26 = d := ⟨_, rfl⟩
          rw [hd] at rw'
          have b1 : (0 : Int) ≤ 0 ∧ (0 : Int) ≤ (d : Int) := by omega
          have RW := Lib.hid rw'; have HD := Lib.hid hd
          clear hr ho hij hjg hrow hp HSP HST rw' rd o2 hn hn0 ho2 hd
          go_wp2_with fail
          go_region
          go_wp2_with fail
          go_region
          rw [HD.out]
          go_wp2_with (first
            | (go_at_call 65
               refine (TL _ d _ (by exact RW.out)).mono ?_
               rintro e w1 ⟨⟨a1, c1', rfl⟩, hb1⟩
               have r1 := RD.out.below hb1
               have x2 := r1.blk.cell 2 _ rfl
               have y2 := r1.blk.free 2
               have l2 := r1.blk.lt
               have cv := (Row.take (RW.out.below hb1) 0 (by omega)).convert
               have R1 := Lib.hid r1; have Hb1 := Lib.hid hb1
               clear r1 hb1)
            | fail)
          go_end0
          refine ⟨⟨_, rfl⟩, ?_, ?_⟩
          · exact R1.out.setTok ⟨#[]⟩
          · exact (Ho2.out.trans (Only.of_below Hb1.out _)).setCell (p := ⟨G, 2, none⟩) (.inl rfl) _
  
end Go.Proofs.YtlaidjgdipacgaaGreatDoor
end

section
namespace Go.Proofs.YtlaidjgdipacgaaGreatDoor
open Go.RowKit Go.Shelf
attribute [local go_sem] Oper.semAt_some

theorem told_yes (w : World) : Calls Tryz.prog 104 #[.bool true] w fun e w' => e = .returned (.int .i64 0) ∧ w' = w := by
  go_enter Tryz.func104, Tryz.ntmps104
  go_wp2_with fail
  go_ret
  exact ⟨rfl, rfl⟩
theorem Pattern_s (w : World) : Calls Tryz.prog 74 #[.string ⟨#[42, 46, 97]⟩] w fun e w' => e = .returned (.int .i64 0) ∧ Below w.heap.size w w' := by
  have C := pattern_s w
  have T := told_yes
  go_enter Tryz.func74, Tryz.ntmps74
  go_wp2_with fail
  refine C.mono ?_; rintro e w1 ⟨rfl, hb1⟩
  go_wp2_with fail
  refine (T _).mono ?_; rintro e w2 ⟨rfl, rfl⟩
  go_wp2_with fail
  go_ret
  exact ⟨rfl, hb1⟩
theorem IndexFunc_none (a : Option Addr) (c : Nat) (f : Value) (w : World) : Calls Tryz.prog 103 #[.slice a 0 c, f] w fun e w' => e = .returned (.int .i64 (-1)) ∧ w' = w := by
  go_enter Tryz.func103, Tryz.ntmps103
  go_wp2_with fail
  refine wp_loop_rounds 1 ?_
  rw [rounds_succ]
  go_wp2_with fail
  go_ret
  exact ⟨rfl, rfl⟩
theorem ContainsFunc_none (a : Option Addr) (c : Nat) (f : Value) (w : World) : Calls Tryz.prog 70 #[.slice a 0 c, f] w fun e w' => e = .returned (.bool false) ∧ w' = w := by
  have C := IndexFunc_none a c f w
  go_enter Tryz.func70, Tryz.ntmps70
  go_wp2_with fail
  refine C.mono ?_; rintro e w1 ⟨rfl, rfl⟩
  go_wp2_with fail
  go_ret
  exact ⟨rfl, rfl⟩
theorem named_web (w : World) : Calls Tryz.prog 69 #[.string ⟨#[119, 101, 98]⟩] w fun e w' => e = .returned (.bool true) ∧ Below w.heap.size w w' := by
  have C := Any.strings_Trim_laid Sh.lays160 info_sset ⟨#[119, 101, 98]⟩ ⟨#[97, 98, 99, 100, 101, 102, 103, 104, 105, 106, 107, 108, 109, 110, 111, 112, 113, 114, 115, 116, 117, 118, 119, 120, 121, 122, 48, 49, 50, 51, 52, 53, 54, 55, 56, 57, 45]⟩ w (by decide) (by decide) (ascii_of_all (by decide))
  rw [show (⟨(Lib.trimS (⟨#[119, 101, 98]⟩ : ByteArray).data.toList (⟨#[97, 98, 99, 100, 101, 102, 103, 104, 105, 106, 107, 108, 109, 110, 111, 112, 113, 114, 115, 116, 117, 118, 119, 120, 121, 122, 48, 49, 50, 51, 52, 53, 54, 55, 56, 57, 45]⟩ : ByteArray).data.toList).toArray⟩ : ByteArray) = ⟨#[]⟩ by decide] at C
  go_enter Tryz.func69, Tryz.ntmps69
  go_wp2_with (first
    | (go_at_call 102; refine C.mono ?_; rintro e w1 ⟨rfl, hb1⟩)
    | fail)
  go_ret
  exact ⟨rfl, hb1⟩

theorem rule1_web (A : Nat) (w : World) (hA : Boxed w A 49 (.slice none 0 0)) :
    Calls Tryz.prog 68 #[.string ⟨#[119, 101, 98]⟩, .pointer (some ⟨A, 0, none⟩)] w fun e w' => e = .returned (.bool true) ∧ Below w.heap.size w w' := by
  have hmf : ∀ (fn : Fn) (first cap : Array Value) (w : World), (Instr.makeFunc fn first cap).run Tryz.prog w = .ok (.func fn first cap) w := fun _ _ _ _ => rfl
  have N := fun W => named_web W
  have lA := hA.lt
  have nA : ¬ w.heap.size = A := by omega
  have q := Boxed.new w 9 (.string ⟨#[119, 101, 98]⟩)
  have a1 := hA.alloc (.cells #[.string ⟨#[119, 101, 98]⟩] 9)
  have k0 := q.cell; have k1 := a1.cell
  have HB := (Below.refl w.heap.size w).alloc (Nat.le_refl _) (.cells #[.string ⟨#[119, 101, 98]⟩] 9)
  have Q := Lib.hid a1; have HBh := Lib.hid HB
  clear a1 q hA HB
  go_enter Tryz.func68, Tryz.ntmps68
  go_wp2_with (first
    | (go_at_call 69; refine (N _).mono ?_; clear N; rintro e w1 ⟨rfl, hb1⟩; have q1 := boxed_below Q.out hb1; have c1 := q1.cell)
    | (go_at_call 70; refine (ContainsFunc_none _ _ _ _).mono ?_; rintro e w2 ⟨rfl, rfl⟩)
    | fail)
  go_ret
  exact ⟨rfl, HBh.out.trans (hb1.mono HBh.out.size)⟩

theorem rule2_s (X : Nat) (nm : ByteArray) (al : Bool) (w : World) (hX : Blk w X 57 [.string nm, .bool al, .slice none 0 0, .int .u64 0, .int .i64 0, .int .i64 0, .int .i64 0]) :
    Calls Tryz.prog 73 #[.string ⟨#[42, 46, 97]⟩, .pointer (some ⟨X, 0, none⟩)] w fun e w' => e = .returned (.bool true) ∧ Below w.heap.size w w' := by
  have C := fun W => Pattern_s W
  have c2 := hX.cell 2 _ rfl
  have Q := Lib.hid hX
  clear hX
  go_enter Tryz.func73, Tryz.ntmps73
  go_wp2_with (first
    | (go_at_call 74; refine (C _).mono ?_; clear C; rintro e w1 ⟨rfl, hb1⟩; have x1 := (Q.out.below hb1).cell 2 _ rfl)
    | (go_at_call 75; refine (Sh.slices_Contains_string_empty _ _ _ _).mono ?_; rintro e w2 ⟨rfl, rfl⟩)
    | fail)
  go_ret
  exact ⟨rfl, hb1⟩

theorem ParseUint_9 (w : World) : Calls Tryz.prog 107 #[.string ⟨#[57]⟩, .int .i64 10, .int .i64 64] w fun e w' => e = .returned (.tuple #[.int .u64 9, .nilIface]) ∧ Below w.heap.size w w' := by
  refine (Sh.strconv_ParseUint_10_at64_ok ⟨#[57]⟩ (by decide) 9 (by decide) w).mono ?_
  rintro e w' ⟨rfl, h⟩
  refine ⟨rfl, ?_⟩
  rcases h with rfl | rfl
  · exact Below.refl _ _
  · exact Lib.bytesWorld_below _ _ _
theorem number1_9 (B M : Nat) (w : World) (hB : Boxed w B 25 (.int .u64 0)) (hM : Boxed w M 25 (.int .u64 1000)) (hne : M ≠ B) :
    Calls Tryz.prog 106 #[.string ⟨#[57]⟩, .pointer (some ⟨B, 0, none⟩), .pointer (some ⟨M, 0, none⟩)] w fun e w' => e = .returned (.bool true) ∧ Boxed w' B 25 (.int .u64 9) ∧ Only (· = B) w w' := by
  have C := fun W => ParseUint_9 W
  have QB := Lib.hid hB; have QM := Lib.hid hM
  have hne' : ¬ B = M := fun e => hne e.symm
  have hq : ∀ W : World, (binOp .eql 165 .nilIface .nilIface).run Tryz.prog W = .ok (.bool true) W := fun _ => by kernel_rfl
  clear hB hM
  go_enter Tryz.func106, Tryz.ntmps106
  go_wp2_with (first
    | (go_at_call 107; refine (C _).mono ?_; clear C; rintro e w1 ⟨rfl, hb1⟩; have b1 := boxed_below QB.out hb1; have m1 := boxed_below QM.out hb1; have x1 := b1.cell; have f1 := b1.frozen; have l1 := b1.lt; have y1 := m1.cell)
    | fail)
  go_ret
  exact ⟨rfl, b1.set _, (Only.of_below hb1 (· = B)).setCell (p := ⟨B, 0, none⟩) (.inl rfl) _⟩
end Go.Proofs.YtlaidjgdipacgaaGreatDoor
end

section
namespace Go.Proofs.YtlaidjgdipacgaaGreatDoor
open Go.RowKit Go.Shelf
attribute [local go_sem] Oper.semAt_some

/-- From one token to the next. -/
def Nexts (G tb c : Nat) (k : Int) (tok : ByteArray) (k' : Int) (tok' : ByteArray) : Prop := ∀ W, Rdr W G tb c k tok →
  Calls Tryz.prog 40 #[.pointer (some ⟨G, 0, none⟩)] W fun e W' => (∃ v, e = .returned v) ∧ Rdr W' G tb c k' tok' ∧ Only (· = G) W W'

theorem nx0 (G tb c : Nat) : Nexts G tb c 0 ⟨#[]⟩ 0 ⟨#[97, 108, 108, 111, 119]⟩ := fun W h => next_any 0 0 5 5 _ W h (by decide) (by decide) (by decide) (fun j a b => absurd a (by omega)) (by decide) (by decide) (by decide) (by decide)
theorem nx1 (G tb c : Nat) : Nexts G tb c 0 ⟨#[97, 108, 108, 111, 119]⟩ 6 ⟨#[119, 101, 98]⟩ := fun W h => next_any 5 6 3 3 _ W h (by decide) (by decide) (by decide) (fun j a b => by obtain rfl : j = 5 := (by omega); rfl) (by decide) (by decide) (by decide) (by decide)
theorem nx2 (G tb c : Nat) : Nexts G tb c 6 ⟨#[119, 101, 98]⟩ 10 ⟨#[123]⟩ := fun W h => next_any 9 10 0 1 _ W h (by decide) (by decide) (by decide) (fun j a b => by obtain rfl : j = 9 := (by omega); rfl) (by decide) (by decide) (by decide) (by decide)
theorem nx3 (G tb c : Nat) : Nexts G tb c 10 ⟨#[123]⟩ 12 ⟨#[42, 46, 97]⟩ := fun W h => next_any 11 12 3 3 _ W h (by decide) (by decide) (by decide) (fun j a b => by obtain rfl : j = 11 := (by omega); rfl) (by decide) (by decide) (by decide) (by decide)
theorem nx4 (G tb c : Nat) : Nexts G tb c 12 ⟨#[42, 46, 97]⟩ 15 ⟨#[59]⟩ := fun W h => next_any 15 15 0 1 _ W h (by decide) (by decide) (by decide) (fun j a b => absurd a (by omega)) (by decide) (by decide) (by decide) (by decide)
theorem nx5 (G tb c : Nat) : Nexts G tb c 15 ⟨#[59]⟩ 17 ⟨#[108, 105, 102, 101]⟩ := fun W h => next_any 16 17 4 4 _ W h (by decide) (by decide) (by decide) (fun j a b => by obtain rfl : j = 16 := (by omega); rfl) (by decide) (by decide) (by decide) (by decide)
theorem nx6 (G tb c : Nat) : Nexts G tb c 17 ⟨#[108, 105, 102, 101]⟩ 22 ⟨#[57]⟩ := fun W h => next_any 21 22 1 1 _ W h (by decide) (by decide) (by decide) (fun j a b => by obtain rfl : j = 21 := (by omega); rfl) (by decide) (by decide) (by decide) (by decide)
theorem nx7 (G tb c : Nat) : Nexts G tb c 22 ⟨#[57]⟩ 23 ⟨#[59]⟩ := fun W h => next_any 23 23 0 1 _ W h (by decide) (by decide) (by decide) (fun j a b => absurd a (by omega)) (by decide) (by decide) (by decide) (by decide)
theorem nx8 (G tb c : Nat) : Nexts G tb c 23 ⟨#[59]⟩ 25 ⟨#[125]⟩ := fun W h => next_any 24 25 0 1 _ W h (by decide) (by decide) (by decide) (fun j a b => by obtain rfl : j = 24 := (by omega); rfl) (by decide) (by decide) (by decide) (by decide)
theorem nx9 (G tb c : Nat) : Nexts G tb c 25 ⟨#[125]⟩ 26 ⟨#[]⟩ := fun W h => next_any 26 26 0 0 _ W h (by decide) (by decide) (by decide) (fun j a b => absurd a (by omega)) (by decide) (by decide) (by decide) (by decide)

theorem want_any {G tb c : Nat} {k k' : Int} {tok tok' : ByteArray} (N : Nexts G tb c k tok k' tok') (w : World) (h : Rdr w G tb c k tok) :
    Calls Tryz.prog 72 #[.pointer (some ⟨G, 0, none⟩), .string tok] w fun e w' => (∃ v, e = .returned v) ∧ Rdr w' G tb c k' tok' ∧ Only (· = G) w w' := by
  have c2 := h.blk.cell 2 _ rfl
  have C := N w h
  go_enter Tryz.func72, Tryz.ntmps72
  go_wp2_with (first
    | (go_at_call 40; refine C.mono ?_; rintro e w1 ⟨⟨v, rfl⟩, r1, o1⟩)
    | fail)
  go_end0
  exact ⟨⟨_, rfl⟩, r1, o1⟩

theorem take_web (G tb c : Nat) (A : Nat) (w : World) (h : Rdr w G tb c 6 ⟨#[119, 101, 98]⟩) (hA : Boxed w A 49 (.slice none 0 0)) :
    Calls Tryz.prog 67 #[.pointer (some ⟨G, 0, none⟩), .func (.func 68) #[] #[.pointer (some ⟨A, 0, none⟩)]] w fun e w' => e = .returned (.string ⟨#[119, 101, 98]⟩) ∧ Rdr w' G tb c 10 ⟨#[123]⟩ ∧ Only (· = G) w w' := by
  have c2 := h.blk.cell 2 _ rfl
  have C := rule1_web A w hA
  have N := nx2 G tb c
  have H := Lib.hid h
  clear h
  go_enter Tryz.func67, Tryz.ntmps67
  go_wp2_with (first
    | (go_at_call 68; refine C.mono ?_; clear C; rintro e w1 ⟨rfl, hb1⟩; have r1 := H.out.below hb1; have o1 := Only.of_below hb1 (· = G))
    | (go_at_call 40; refine (N _ r1).mono ?_; clear N; rintro e w2 ⟨⟨v, rfl⟩, r2, o2⟩)
    | fail)
  go_ret
  exact ⟨rfl, r2, o1.trans o2⟩

theorem take_s (G tb c : Nat) (X : Nat) (nm : ByteArray) (al : Bool) (w : World) (h : Rdr w G tb c 12 ⟨#[42, 46, 97]⟩) (hX : Blk w X 57 [.string nm, .bool al, .slice none 0 0, .int .u64 0, .int .i64 0, .int .i64 0, .int .i64 0]) :
    Calls Tryz.prog 67 #[.pointer (some ⟨G, 0, none⟩), .func (.func 73) #[] #[.pointer (some ⟨X, 0, none⟩)]] w fun e w' => e = .returned (.string ⟨#[42, 46, 97]⟩) ∧ Rdr w' G tb c 15 ⟨#[59]⟩ ∧ Only (· = G) w w' := by
  have c2 := h.blk.cell 2 _ rfl
  have C := rule2_s X nm al w hX
  have N := nx4 G tb c
  have H := Lib.hid h
  clear h
  go_enter Tryz.func67, Tryz.ntmps67
  go_wp2_with (first
    | (go_at_call 73; refine C.mono ?_; clear C; rintro e w1 ⟨rfl, hb1⟩; have r1 := H.out.below hb1; have o1 := Only.of_below hb1 (· = G))
    | (go_at_call 40; refine (N _ r1).mono ?_; clear N; rintro e w2 ⟨⟨v, rfl⟩, r2, o2⟩)
    | fail)
  go_ret
  exact ⟨rfl, r2, o1.trans o2⟩

theorem take_nine (G tb c : Nat) (B M : Nat) (w : World) (h : Rdr w G tb c 22 ⟨#[57]⟩) (hB : Boxed w B 25 (.int .u64 0)) (hM : Boxed w M 25 (.int .u64 1000)) (hne : M ≠ B) (hBG : B ≠ G) (hBt : B ≠ tb) :
    Calls Tryz.prog 67 #[.pointer (some ⟨G, 0, none⟩), .func (.func 106) #[] #[.pointer (some ⟨B, 0, none⟩), .pointer (some ⟨M, 0, none⟩)]] w fun e w' => e = .returned (.string ⟨#[57]⟩) ∧ Rdr w' G tb c 23 ⟨#[59]⟩ ∧ Boxed w' B 25 (.int .u64 9) ∧ Only (fun x => x = G ∨ x = B) w w' := by
  have c2 := h.blk.cell 2 _ rfl
  have C := number1_9 B M w hB hM hne
  have N := nx7 G tb c
  have H := Lib.hid h
  clear h
  go_enter Tryz.func67, Tryz.ntmps67
  go_wp2_with (first
    | (go_at_call 106; refine C.mono ?_; clear C; rintro e w1 ⟨rfl, hb1, p1⟩; have r1 := H.out.only p1 (fun e => hBt e.symm) (fun e => hBG e.symm); have o1 := p1)
    | (go_at_call 40; refine (N _ r1).mono ?_; clear N; rintro e w2 ⟨⟨v, rfl⟩, r2, o2⟩)
    | fail)
  go_ret
  exact ⟨rfl, r2, o2.boxed hb1 hBG, (o1.mono fun k _ hk => .inr hk).trans (o2.mono fun k _ hk => .inl hk)⟩

theorem number_nine (G tb c : Nat) (w : World) (h : Rdr w G tb c 22 ⟨#[57]⟩) :
    Calls Tryz.prog 76 #[.pointer (some ⟨G, 0, none⟩), .int .u64 1000] w fun e w' => e = .returned (.int .u64 9) ∧ Rdr w' G tb c 23 ⟨#[59]⟩ ∧ Only (· = G) w w' := by
  have hmf : ∀ (fn : Fn) (first cap : Array Value) (w : World), (Instr.makeFunc fn first cap).run Tryz.prog w = .ok (.func fn first cap) w := fun _ _ _ _ => rfl
  have lG := h.blk.lt
  have q1 := (Boxed.new w 25 (.int .u64 1000)).alloc (.cells #[.int .u64 0] 25)
  have q2 := Boxed.new (w.alloc (.cells #[.int .u64 1000] 25)) 25 (.int .u64 0)
  have hb := ((Below.refl w.heap.size w).alloc (Nat.le_refl _) (.cells #[.int .u64 1000] 25)).alloc (by simp) (.cells #[.int .u64 0] 25)
  have r := h.below hb
  have lt : tb < w.heap.size := by
    obtain ⟨a', c', e, h1, h2, h3, h4, h5⟩ := h.row
    cases e
    obtain ⟨b', o', e, hlt, hc⟩ := h5 (by decide)
    cases e
    exact hlt
  rw [World.size_alloc] at q2
  have T := take_nine G tb c (w.heap.size + 1) w.heap.size _ r q2 q1 (by omega) (by omega) (by omega)
  have HB := Lib.hid hb
  clear r q1 q2 hb h
  go_enter Tryz.func76, Tryz.ntmps76
  go_wp2_with (first
    | (go_at_call 67; refine T.mono ?_; clear T; rintro e w1 ⟨rfl, r1, b1, o1⟩; have x1 := b1.cell)
    | fail)
  go_ret
  refine ⟨rfl, r1, ?_⟩
  have hs := HB.out.size
  exact ⟨o1.os.trans HB.out.os, o1.tape.trans HB.out.tape, o1.output.trans HB.out.output, Nat.le_trans hs o1.size, fun k hk hS => (o1.block k (by omega) (fun e => by rcases e with e | e; exact hS e; omega)).trans (HB.out.block k hk)⟩
end Go.Proofs.YtlaidjgdipacgaaGreatDoor
end

section
namespace Go.Proofs.YtlaidjgdipacgaaGreatDoor
open Go.RowKit Go.Shelf
attribute [local go_sem] Oper.semAt_some

theorem info_string : (Tryz.prog.info? 9).map (fun i => (i.zero, i.size, i.bytes)) = some (some (.string ⟨#[]⟩), 1, 16) := by kernel_rfl
theorem cells_newL (w : World) (cs : List Value) (t : TypeId) : ∀ j u, cs[j]? = some u → (w.alloc (.cells cs.toArray t)).cell? ((⟨w.heap.size, 0, none⟩ : Addr).add j) = some u := fun j u h => by
  have := (Blk.new w t cs).cell j u h
  by_cases h0 : j = 0
  · subst h0; exact this
  · simpa [Addr.add, h0] using this
/-- A rule in memory. -/
abbrev ruleL (nm : ByteArray) (al : Bool) (ps : Value) (life : Int) : List Value := [.string nm, .bool al, ps, .int .u64 0, .int .i64 life, .int .i64 0, .int .i64 0]
theorem rule_ret {tmps : Array Value} {W : World} {g : Nat} {fn : Func} {p : Tmp} (hr : fn.results = #[.cell p 57]) (hp : tmps.getD p undef = .pointer (some ⟨g, 0, none⟩)) {nm : ByteArray} {al : Bool} {ps : Value} {life : Int} (hd : Blk W g 57 (ruleL nm al ps life)) :
    (results fn tmps).run Tryz.prog W = .ok (.agg (ruleL nm al ps life).toArray) W := by
  have hp' : tmps[p]?.getD undef = .pointer (some ⟨g, 0, none⟩) := by simpa using hp
  simp [results, hr, hp', asAddr, run_loadVar_row W g 57 57 (ruleL nm al ps life).toArray (0, 0) _ hd Tryz.underlying57 rfl (by kernel_rfl)]

/-- Where the walk over rule stands: the reader, the rule that it makes, what stood ahead. -/
structure Rl (w : World) (A X G tb c : Nat) (k : Int) (tok : ByteArray) (L : List Value) (V : World) : Prop where
  rdr : Rdr V G tb c k tok
  blk : Blk V X 57 L
  box : Boxed V A 49 (.slice none 0 0)
  only : Only (· = G) w V
  hA : w.heap.size = A
  hX : A + 1 = X
  tbA : tb < A
  GA : G < A
theorem Rl.set {w V : World} {A X G tb c : Nat} {k : Int} {tok : ByteArray} {L : List Value} (h : Rl w A X G tb c k tok L V) (i : Nat) (v : Value) : Rl w A X G tb c k tok (L.set i v) (V.setCell ⟨X, i, none⟩ v) := by
  have o : Only (· = X) V (V.setCell ⟨X, i, none⟩ v) := (Only.refl (· = X) V).setCell (.inl rfl) v
  have := h.hA; have := h.hX; have := h.tbA; have := h.GA
  exact ⟨h.rdr.only o (by omega) (by omega), h.blk.set i v, o.boxed h.box (by omega), h.only.setCell (.inr (show w.heap.size ≤ X by omega)) v, h.hA, h.hX, h.tbA, h.GA⟩
theorem Rl.step {w V V' : World} {A X G tb c : Nat} {k k' : Int} {tok tok' : ByteArray} {L : List Value} (h : Rl w A X G tb c k tok L V) (r : Rdr V' G tb c k' tok') (o : Only (· = G) V V') : Rl w A X G tb c k' tok' L V' := by
  have := h.hA; have := h.hX; have := h.tbA; have := h.GA
  exact ⟨r, h.blk.kept (o.block X h.blk.lt (by omega)), o.boxed h.box (by omega), h.only.trans o, h.hA, h.hX, h.tbA, h.GA⟩
theorem Rl.below {w V V' : World} {A X G tb c : Nat} {k : Int} {tok : ByteArray} {L : List Value} (h : Rl w A X G tb c k tok L V) (b : Below V.heap.size V V') : Rl w A X G tb c k tok L V' :=
  h.step (h.rdr.below b) (Only.of_below b _)
theorem Rl.drew {w V : World} {A X G tb c : Nat} {k : Int} {tok : ByteArray} {L : List Value} (h : Rl w A X G tb c k tok L V) : Rl w A X G tb c k tok L V.drew := h.below (Below.refl _ _).drew

set_option maxRecDepth 100000 in
set_option maxHeartbeats 1000000 in
theorem rule_text (G tb c : Nat) (w : World) (h : Rdr w G tb c 0 ⟨#[97, 108, 108, 111, 119]⟩) :
    Calls Tryz.prog 41 #[.pointer (some ⟨G, 0, none⟩), .slice none 0 0] w fun e w' => (∃ a d, e = .returned (.agg (ruleL ⟨#[119, 101, 98]⟩ true (.slice a 1 d) 9).toArray)) ∧ Rdr w' G tb c 26 ⟨#[]⟩ ∧ Only (· = G) w w' := by
  have hmf : ∀ (fn : Fn) (first cap : Array Value) (w : World), (Instr.makeFunc fn first cap).run Tryz.prog w = .ok (.func fn first cap) w := fun _ _ _ _ => rfl
  obtain ⟨i0, gi, gz0, gz1, gz2⟩ := info_parts info_string
  obtain ⟨A, hA⟩ : ∃ A, w.heap.size = A := ⟨_, rfl⟩
  have lG := h.blk.lt
  have q1 := (Boxed.new w 49 (.slice none 0 0)).alloc (.cells (ruleL ⟨#[]⟩ false (.slice none 0 0) 0).toArray 57)
  have q2 := Blk.new (w.alloc (.cells #[.slice none 0 0] 49)) 57 (ruleL ⟨#[]⟩ false (.slice none 0 0) 0)
  have hb := ((Below.refl w.heap.size w).alloc (Nat.le_refl _) (.cells #[.slice none 0 0] 49)).alloc (by simp) (.cells (ruleL ⟨#[]⟩ false (.slice none 0 0) 0).toArray 57)
  have r := h.below hb
  have hXt : tb < w.heap.size := by
    obtain ⟨a', c', e, h1, h2, h3, h4, h5⟩ := h.row
    cases e
    obtain ⟨b', o', e, hlt, hc⟩ := h5 (by decide)
    cases e
    exact hlt
  rw [World.size_alloc] at q2
  rw [hA] at q1 q2
  go_enter Tryz.func41, Tryz.ntmps41
  go_upto_region 1 with fail
  obtain ⟨X, hX⟩ : ∃ X, A + 1 = X := ⟨_, rfl⟩
  obtain ⟨W, hW⟩ : ∃ W, (w.alloc (.cells #[.slice none 0 0] 49)).alloc (.cells #[.string ⟨#[]⟩, .bool false, .slice none 0 0, .int .u64 0, .int .i64 0, .int .i64 0, .int .i64 0] 57) = W := ⟨_, rfl⟩
  rw [hX] at q2
  rw [hW] at q1 q2 r hb
  rw [hX, hW]
  have s0 : Rl w A X G tb c 0 ⟨#[97, 108, 108, 111, 119]⟩ (ruleL ⟨#[]⟩ false (.slice none 0 0) 0) W := ⟨r, q2, q1, Only.of_below hb _, hA, hX, by omega, by omega⟩
  have c2 := r.blk.cell 2 _ rfl; have x1 := q2.cell 1 _ rfl; have f1 := q2.free 1; have lX := q2.lt; have a0 := q1.cell
  have hXG : ¬ X = G := by omega
  have s1 := s0.set 1 (.bool true)
  have S1 := Lib.hid s1
  clear hb q1 q2 r hX hA hXt hW h s0 s1
  go_wp2_with fail
  refine (nx1 G tb c _ S1.out.rdr).mono ?_
  rintro e w1 ⟨⟨v, rfl⟩, r1, o1⟩
  have s2 := S1.out.step r1 o1
  have x0 := s2.blk.cell 0 _ rfl; have f0 := s2.blk.free 0; have lX2 := s2.blk.lt
  have S2 := Lib.hid s2
  clear r1 o1 s2 c2 x1 f1 lX a0 S1
  go_wp2_with fail
  refine (take_web G tb c A _ S2.out.rdr S2.out.box).mono ?_
  rintro e w2 ⟨rfl, r2, o2⟩
  have s3 := S2.out.step r2 o2
  have x0 := s3.blk.cell 0 _ rfl; have f0 := s3.blk.free 0; have lX2 := s3.blk.lt
  have s4 := s3.set 0 (.string ⟨#[119, 101, 98]⟩)
  have S4 := Lib.hid s4
  clear r2 o2 s3 s4 S2
  go_wp2_with fail
  refine (want_any (nx3 G tb c) _ S4.out.rdr).mono ?_
  rintro e w3 ⟨⟨v3, rfl⟩, r3, o3⟩
  have s5 := S4.out.step r3 o3
  have x2 := s5.blk.cell 2 _ rfl; have f2 := s5.blk.free 2; have lX3 := s5.blk.lt
  have S5 := Lib.hid s5
  clear r3 o3 s5 S4 x0 f0 lX2
  go_wp2_with fail
  refine wp_loop_rounds 1 ?_
  rw [rounds_succ]
  go_upto_region 9 with fail
  have HT : ∀ V, Rl w A X G tb c 12 ⟨#[42, 46, 97]⟩ (ruleL ⟨#[119, 101, 98]⟩ true (.slice none 0 0) 0) V → Calls Tryz.prog 67 #[.pointer (some ⟨G, 0, none⟩), .func (.func 73) #[] #[.pointer (some ⟨X, 0, none⟩)]] V fun e V' => e = .returned (.string ⟨#[42, 46, 97]⟩) ∧ Rl w A X G tb c 15 ⟨#[59]⟩ (ruleL ⟨#[119, 101, 98]⟩ true (.slice none 0 0) 0) V' := fun V hV =>
    (take_s G tb c X _ true V hV.rdr hV.blk).mono fun e V' ⟨he, hr, ho⟩ => ⟨he, hV.step hr ho⟩
  go_region_law (first
    | (refine step_append_lies _ rfl (.tmp 41) (.tmp 45) 55 rfl 0 9 i0 (.string ⟨#[]⟩) 1 16 Tryz.underlying55 gi gz0 gz1 gz2 rfl (by decide) (.slice none 0 0) 0 [] rfl (World.ownsRow_nil _ _ _ _) ⟨w4.heap.size, 0, none⟩ 1 1 [.string ⟨#[42, 46, 97]⟩] rfl rfl (cells_newL w4 _ _) (by intro u hu; simp at hu; subst hu; rfl) (by decide) (by decide) (by omega) (Nat.zero_le _) _ rfl ?_
       intro g5 c5 w5 own5 hgrow hat hlt5
       have s6 := (S6.out.below ((Below.refl w4.heap.size w4).alloc (Nat.le_refl _) (.cells #[.string ⟨#[42, 46, 97]⟩] 9))).below ((Below.refl _ _).grown hgrow (Nat.le_refl _) (fun k e => by cases e))
       have y2 := s6.blk.cell 2 _ rfl; have g2 := s6.blk.free 2; have l5 := s6.blk.lt
       have S7 := Lib.hid s6
       clear s6)
    | (go_simp; go_at_call 67; refine (HT _ (by first | exact S5.out | exact S5.out.drew)).mono ?_; rintro e w4 ⟨rfl, s6⟩; have z2 := s6.blk.cell 2 _ rfl; have h2 := s6.blk.free 2; have l4 := s6.blk.lt; have S6 := Lib.hid s6; clear s6)
    | fail)
  all_goals
    have s8 := S7.out.set 2 (.slice (some ⟨g5, 0, none⟩) 1 c5)
    have c8 := s8.rdr.blk.cell 2 _ rfl; have e8 := s8.blk.cell 1 _ rfl
    have S8 := Lib.hid s8
    obtain ⟨V8, hV8⟩ : ∃ V, w5.setCell ⟨X, 2, none⟩ (.slice (some ⟨g5, 0, none⟩) 1 c5) = V := ⟨_, rfl⟩
    rw [hV8] at s8 c8 e8 S8 ⊢
    clear S7 own5 hgrow hat hlt5 s8 y2 g2 l5 hV8
    go_wp2_with fail
    refine (want_any (nx5 G tb c) _ S8.out.rdr).mono ?_
    rintro e w6 ⟨⟨v6, rfl⟩, r6, o6⟩
    have s9 := S8.out.step r6 o6
    have c9 := s9.rdr.blk.cell 2 _ rfl; have e9 := s9.blk.cell 1 _ rfl
    have S9 := Lib.hid s9
    clear s9 r6 o6 c8 e8
    go_wp2_with fail
    refine (want_any (nx6 G tb c) _ S9.out.rdr).mono ?_
    rintro e w7 ⟨⟨v7, rfl⟩, r7, o7⟩
    have s10 := S9.out.step r7 o7
    have S10 := Lib.hid s10
    clear s10 r7 o7 c9 e9
    go_wp2_with fail
    refine (number_nine G tb c _ S10.out.rdr).mono ?_
    rintro e w8 ⟨rfl, r8, o8⟩
    have s11 := S10.out.step r8 o8
    have x4 := s11.blk.cell 4 _ rfl; have f4 := s11.blk.free 4; have l4 := s11.blk.lt
    have s12 := s11.set 4 (.int .i64 9)
    have S12 := Lib.hid s12
    clear s11 s12 r8 o8
    go_wp2_with fail
    refine (want_any (nx8 G tb c) _ S12.out.rdr).mono ?_
    rintro e w9 ⟨⟨v9, rfl⟩, r9, o9⟩
    have s13 := S12.out.step r9 o9
    have c13 := s13.rdr.blk.cell 2 _ rfl
    have S13 := Lib.hid s13
    clear s13 r9 o9 x4 f4 l4
    go_wp2_with fail
    refine (want_any (nx9 G tb c) _ S13.out.rdr).mono ?_
    rintro e w10 ⟨⟨v10, rfl⟩, r10, o10⟩
    have s14 := S13.out.step r10 o10
    have y0 := s14.blk.cell 0 _ rfl; have y1 := s14.blk.cell 1 _ rfl; have y2 := s14.blk.cell 2 _ rfl; have y3 := s14.blk.cell 3 _ rfl; have y4 := s14.blk.cell 4 _ rfl; have y5 := s14.blk.cell 5 _ rfl; have y6 := s14.blk.cell 6 _ rfl
    have p0 := s14.blk.free 0; have p1 := s14.blk.free 1; have p2 := s14.blk.free 2; have p3 := s14.blk.free 3; have p4 := s14.blk.free 4; have p5 := s14.blk.free 5; have p6 := s14.blk.free 6
    have lE := s14.blk.lt
    have S14 := Lib.hid s14
    clear s14 r10 o10 c13
    go_wp2_with fail
    have s15 := ((((((S14.out.set 0 (.string ⟨#[119, 101, 98]⟩)).set 1 (.bool true)).set 2 (.slice (some ⟨g5, 0, none⟩) 1 c5)).set 3 (.int .u64 0)).set 4 (.int .i64 9)).set 5 (.int .i64 0)).set 6 (.int .i64 0)
    have b : Blk _ X 57 (ruleL ⟨#[119, 101, 98]⟩ true (.slice (some ⟨g5, 0, none⟩) 1 c5) 9) := s15.blk
    refine bodyPost_ret (rule_ret (p := 4) (g := X) rfl rfl b) rfl ⟨⟨_, _, rfl⟩, s15.rdr, s15.only⟩
end Go.Proofs.YtlaidjgdipacgaaGreatDoor
end

section
namespace Go.Proofs.YtlaidjgdipacgaaGreatDoor
open Go.RowKit Go.Shelf
attribute [local go_sem] Oper.semAt_some

/-- The deferred closure of a frame that returns: recover finds nothing. -/
theorem parse1_idle (a b c : Addr) (w : World) :
    CallsD Tryz.prog 39 #[.pointer (some a), .pointer (some b), .pointer (some c)] .returning w fun e u' w' => e = .returned (.tuple #[]) ∧ u' = .returning ∧ w' = w := by
  have hq : ∀ W : World, (binOp .eql 20 .nilIface .nilIface).run Tryz.prog W = .ok (.bool true) W := fun _ => by kernel_rfl
  refine callsD_of_wpS Tryz.func39 rfl fun c₀ cs hu => ?_
  apply wpS_seq
  apply wpS_region
  simp [wpOpsS, go_sem, recoverD, hu, Tryz.ntmps39, Exit.thenS]
  refine wpS_of_wp ?_
  go_wp2_with fail
  cases c₀
  simp_all [bodyPostS, results, Tryz.results39]

/-- A way on where nothing panics: in a frame that defers, a region's walk wants it so (what a panic leaves depends there on the slots). -/
def NormQ (K : Act → World → Prop) : Exit → Act → World → Prop
  | .normal, a, w => K a w
  | _, _, _ => False
theorem NormQ.wp {P : Program} {c : Code} {Q : Exit → Act → World → Prop} {a : Act} {w : World} (h : c.wp P (NormQ (Q .normal)) a w) : c.wp P Q a w :=
  Code.wp_mono (fun e a w h => by cases e <;> first | exact h | exact h.elim) h
theorem NormQ.of {K : Act → World → Prop} {a : Act} {w : World} (h : K a w) : NormQ K .normal a w := h

/-- Where the walk over Parse stands. -/
structure Pa (w : World) (A B C G tb c : Nat) (k : Int) (tok : ByteArray) (lv : Value) (V : World) : Prop where
  rdr : Rdr V G tb c k tok
  l : Boxed V A 49 lv
  a : Boxed V B 3 (.int .i64 0)
  e : Boxed V C 31 (.int .i64 0)
  bel : Below w.heap.size w V
  hA : w.heap.size = A
  hB : A + 1 = B
  hC : B + 1 = C
  hG : C + 1 = G
  tbA : tb < A
theorem Pa.step {w V V' : World} {A B C G tb c : Nat} {k k' : Int} {tok tok' : ByteArray} {lv : Value} (h : Pa w A B C G tb c k tok lv V) (r : Rdr V' G tb c k' tok') (o : Only (· = G) V V') : Pa w A B C G tb c k' tok' lv V' := by
  have := h.hA; have := h.hB; have := h.hC; have := h.hG; have := h.tbA
  exact ⟨r, o.boxed h.l (by omega), o.boxed h.a (by omega), o.boxed h.e (by omega), h.bel.trans (o.to_below (by have := h.bel.size; omega) (fun k hk => by omega)), h.hA, h.hB, h.hC, h.hG, h.tbA⟩
theorem Pa.below {w V V' : World} {A B C G tb c : Nat} {k : Int} {tok : ByteArray} {lv : Value} (h : Pa w A B C G tb c k tok lv V) (b : Below V.heap.size V V') : Pa w A B C G tb c k tok lv V' := h.step (h.rdr.below b) (Only.of_below b _)
theorem Pa.setL {w V : World} {A B C G tb c : Nat} {k : Int} {tok : ByteArray} {lv : Value} (h : Pa w A B C G tb c k tok lv V) (v : Value) : Pa w A B C G tb c k tok v (V.setCell ⟨A, 0, none⟩ v) := by
  have := h.hA; have := h.hB; have := h.hC; have := h.hG; have := h.tbA
  have o : Only (· = A) V (V.setCell ⟨A, 0, none⟩ v) := (Only.refl (· = A) V).setCell (.inl rfl) v
  exact ⟨h.rdr.only o (by omega) (by omega), h.l.set v, o.boxed h.a (by omega), o.boxed h.e (by omega), h.bel.setCell (p := ⟨A, 0, none⟩) (by show w.heap.size ≤ A; omega) v, h.hA, h.hB, h.hC, h.hG, h.tbA⟩
theorem info_rule : (Tryz.prog.info? 57).map (fun i => (i.zero, i.size, i.bytes)) = some (some (.agg (ruleL ⟨#[]⟩ false (.slice none 0 0) 0).toArray), 7, 80) := by kernel_rfl

set_option maxRecDepth 100000 in
set_option maxHeartbeats 1000000 in
theorem Parse_text (tb c : Nat) (w : World) (h : Row .u8 w (.slice (some ⟨tb, 0, none⟩) 26 c) txt) :
    Calls Tryz.prog 14 #[.slice (some ⟨tb, 0, none⟩) 26 c] w fun e w' => (∃ g d, e = .returned (.tuple #[.slice (some ⟨g, 0, none⟩) 1 d, .int .i64 0, .int .i64 0]) ∧ w'.cell? ⟨g, 4, none⟩ = some (.int .i64 9)) ∧ Below w.heap.size w w' := by
  have hmf : ∀ (fn : Fn) (first cap : Array Value) (w : World), (Instr.makeFunc fn first cap).run Tryz.prog w = .ok (.func fn first cap) w := fun _ _ _ _ => rfl
  obtain ⟨i0, gi, gz0, gz1, gz2⟩ := info_parts info_rule
  obtain ⟨A, hA⟩ : ∃ A, w.heap.size = A := ⟨_, rfl⟩
  go_enter_defers Tryz.func14, Tryz.ntmps14
  have q1 := (((Boxed.new w 49 (.slice none 0 0)).alloc (.cells #[.int .i64 0] 3)).alloc (.cells #[.int .i64 0] 31)).alloc (.cells #[.slice (some ⟨tb, 0, none⟩) 26 c, .int .i64 0, .string ⟨#[]⟩] 87)
  have q2 := ((Boxed.new (w.alloc (.cells #[.slice none 0 0] 49)) 3 (.int .i64 0)).alloc (.cells #[.int .i64 0] 31)).alloc (.cells #[.slice (some ⟨tb, 0, none⟩) 26 c, .int .i64 0, .string ⟨#[]⟩] 87)
  have q3 := (Boxed.new ((w.alloc (.cells #[.slice none 0 0] 49)).alloc (.cells #[.int .i64 0] 3)) 31 (.int .i64 0)).alloc (.cells #[.slice (some ⟨tb, 0, none⟩) 26 c, .int .i64 0, .string ⟨#[]⟩] 87)
  have q4 := Blk.new (((w.alloc (.cells #[.slice none 0 0] 49)).alloc (.cells #[.int .i64 0] 3)).alloc (.cells #[.int .i64 0] 31)) 87 [.slice (some ⟨tb, 0, none⟩) 26 c, .int .i64 0, .string ⟨#[]⟩]
  have hb := ((((Below.refl w.heap.size w).alloc (Nat.le_refl _) (.cells #[.slice none 0 0] 49)).alloc (by simp) (.cells #[.int .i64 0] 3)).alloc (by simp; omega) (.cells #[.int .i64 0] 31)).alloc (by simp; omega) (.cells #[.slice (some ⟨tb, 0, none⟩) 26 c, .int .i64 0, .string ⟨#[]⟩] 87)
  have hr := h.below hb
  have tbA : tb < A := by
    obtain ⟨a', c', e, h1, h2, h3, h4, h5⟩ := h
    cases e
    obtain ⟨b', o', e, hlt, hc⟩ := h5 (by decide)
    cases e
    omega
  simp only [World.size_alloc, hA] at q1 q2 q3 q4
  go_wp2_with fail
  obtain ⟨B, hB⟩ : ∃ X, A + 1 = X := ⟨_, rfl⟩
  obtain ⟨C, hC⟩ : ∃ X, B + 1 = X := ⟨_, rfl⟩
  obtain ⟨G, hG⟩ : ∃ X, C + 1 = X := ⟨_, rfl⟩
  obtain ⟨W, hW⟩ : ∃ W, (((w.alloc (.cells #[.slice none 0 0] 49)).alloc (.cells #[.int .i64 0] 3)).alloc (.cells #[.int .i64 0] 31)).alloc (.cells #[.slice (some ⟨tb, 0, none⟩) 26 c, .int .i64 0, .string ⟨#[]⟩] 87) = W := ⟨_, rfl⟩
  rw [hW] at q1 q2 q3 q4 hr hb
  rw [hB] at q2 q3 q4
  rw [hC] at q3 q4
  rw [hG] at q4
  rw [hB, hC, hG, hW]
  have s0 : Pa w A B C G tb c 0 ⟨#[]⟩ (.slice none 0 0) W := ⟨⟨q4, hr, by omega⟩, q1, q2, q3, hb, hA, hB, hC, hG, tbA⟩
  have S0 := Lib.hid s0
  clear h hA q1 q2 q3 q4 hb hr tbA hB hC hG hW s0
  refine (nx0 G tb c _ S0.out.rdr).mono ?_
  rintro e w1 ⟨⟨v, rfl⟩, r1, o1⟩
  have s1 := S0.out.step r1 o1
  have c2 := s1.rdr.blk.cell 2 _ rfl; have a0 := s1.l.cell; have fa := s1.l.frozen; have la := s1.l.lt
  have S1 := Lib.hid s1
  clear s1 r1 o1
  go_wp2_with fail
  refine wp_loop_rounds 2 ?_
  rw [rounds_succ]
  go_upto_region 7 with fail
  have HT : ∀ V, Pa w A B C G tb c 0 ⟨#[97, 108, 108, 111, 119]⟩ (.slice none 0 0) V → Calls Tryz.prog 41 #[.pointer (some ⟨G, 0, none⟩), .slice none 0 0] V fun e V' => (∃ a d, e = .returned (.agg #[.string ⟨#[119, 101, 98]⟩, .bool true, .slice a 1 d, .int .u64 0, .int .i64 9, .int .i64 0, .int .i64 0])) ∧ Pa w A B C G tb c 26 ⟨#[]⟩ (.slice none 0 0) V' := fun V hV =>
    (rule_text G tb c V hV.rdr).mono fun e V' ⟨he, hr, ho⟩ => ⟨he, hV.step hr ho⟩
  refine NormQ.wp ?_
  go_region_law (first
    | (refine step_append_lies _ rfl (.tmp 20) (.tmp 24) 49 rfl 0 57 i0 (.agg (ruleL ⟨#[]⟩ false (.slice none 0 0) 0).toArray) 7 80 Tryz.underlying49 gi gz0 gz1 gz2 rfl (by decide) (.slice none 0 0) 0 [] rfl (World.ownsRow_nil _ _ _ _) ⟨w2.heap.size, 0, none⟩ 1 1 [.string ⟨#[119, 101, 98]⟩, .bool true, .slice pa 1 pd, .int .u64 0, .int .i64 9, .int .i64 0, .int .i64 0] rfl rfl (cells_newL w2 _ _) (by intro u hu; simp at hu; rcases hu with rfl | rfl | rfl | rfl | rfl | rfl <;> rfl) (by decide) (by decide) (by omega) (Nat.zero_le _) _ rfl ?_
       intro g5 c5 w5 own5 hgrow hat hlt5
       have s6 := (S2.out.below ((Below.refl w2.heap.size w2).alloc (Nat.le_refl _) (.cells #[.string ⟨#[119, 101, 98]⟩, .bool true, .slice pa 1 pd, .int .u64 0, .int .i64 9, .int .i64 0, .int .i64 0] 57))).below ((Below.refl _ _).grown hgrow (Nat.le_refl _) (fun k e => by cases e))
       have y2 := s6.l.cell; have g2 := s6.l.frozen; have l5 := s6.l.lt
       have hc4 : w5.cell? ⟨g5, 4, none⟩ = some (.int .i64 9) := (own5.cells (g := g5) rfl) 4 _ rfl
       have hg5 : w2.heap.size ≤ g5 := by rcases hat with e | e <;> first | (cases e; done) | (simp at e; omega)
       have S7 := Lib.hid s6; have HC4 := Lib.hid hc4; have HG5 := Lib.hid hg5
       clear s6 hc4 hg5)
    | (go_simp; go_at_call 41; refine (HT _ (by first | exact S1.out | exact S1.out.below (Below.refl _ _).drew | exact (S1.out.below (Below.refl _ _).drew).below (Below.refl _ _).drew)).mono ?_; rintro e w2 ⟨⟨pa, pd, rfl⟩, s6⟩; have z2 := s6.l.cell; have h2 := s6.l.frozen; have l4 := s6.l.lt; have S2 := Lib.hid s6; clear s6)
    | fail)
  all_goals
    refine NormQ.of ?_
    have s8 := S7.out.setL (.slice (some ⟨g5, 0, none⟩) 1 c5)
    have hgA : g5 ≠ A := by have := HG5.out; have := S2.out.l.lt; omega
    have hgB : g5 ≠ B := by have := HG5.out; have := S2.out.a.lt; omega
    have hgC : g5 ≠ C := by have := HG5.out; have := S2.out.e.lt; omega
    have h84 : (w5.setCell ⟨A, 0, none⟩ (.slice (some ⟨g5, 0, none⟩) 1 c5)).cell? ⟨g5, 4, none⟩ = some (.int .i64 9) := (World.cell?_of_block (Below.heap_setCell w5 ⟨A, 0, none⟩ _ g5 hgA)).trans HC4.out
    obtain ⟨V8, hV8⟩ : ∃ V, w5.setCell ⟨A, 0, none⟩ (.slice (some ⟨g5, 0, none⟩) 1 c5) = V := ⟨_, rfl⟩
    rw [hV8] at s8 h84 ⊢
    have c8 := s8.rdr.blk.cell 2 _ rfl
    have l8 := s8.l.cell; have fl8 := s8.l.frozen; have ll8 := s8.l.lt
    have a8 := s8.a.cell; have fa8 := s8.a.frozen; have la8 := s8.a.lt
    have e8 := s8.e.cell; have fe8 := s8.e.frozen; have le8 := s8.e.lt
    have hAB : ¬ A = B := by have := s8.hB; omega
    have hAC : ¬ A = C := by have := s8.hB; have := s8.hC; omega
    have hBC : ¬ B = C := by have := s8.hC; omega
    have hBA : ¬ B = A := fun e => hAB e.symm
    have hCA : ¬ C = A := fun e => hAC e.symm
    have hCB : ¬ C = B := fun e => hBC e.symm
    have S8 := Lib.hid s8; have H84 := Lib.hid h84
    clear S7 own5 hgrow hat hlt5 s8 y2 g2 l5 hV8 HC4 h84 z2 h2 l4 c2 a0 fa la
    go_wp2_with fail
    rw [rounds_succ]
    go_wp2_with fail
    have s9 := S8.out.setL (.slice (some ⟨g5, 0, none⟩) 1 c5)
    have hb9 : Below w.heap.size w (((V8.setCell ⟨A, 0, none⟩ (.slice (some ⟨g5, 0, none⟩) 1 c5)).setCell ⟨B, 0, none⟩ (.int .i64 0)).setCell ⟨C, 0, none⟩ (.int .i64 0)) := (s9.bel.setCell (p := ⟨B, 0, none⟩) (by have := s9.hA; have := s9.hB; show w.heap.size ≤ B; omega) _).setCell (p := ⟨C, 0, none⟩) (by have := s9.hA; have := s9.hB; have := s9.hC; show w.heap.size ≤ C; omega) _
    have h94 : (((V8.setCell ⟨A, 0, none⟩ (.slice (some ⟨g5, 0, none⟩) 1 c5)).setCell ⟨B, 0, none⟩ (.int .i64 0)).setCell ⟨C, 0, none⟩ (.int .i64 0)).cell? ⟨g5, 4, none⟩ = some (.int .i64 9) := by
      have n1 : g5 ≠ A := hgA
      have n2 : g5 ≠ B := hgB
      have n3 : g5 ≠ C := hgC
      exact (World.cell?_of_block (((Below.heap_setCell _ ⟨C, 0, none⟩ _ g5 n3).trans (Below.heap_setCell _ ⟨B, 0, none⟩ _ g5 n2)).trans (Below.heap_setCell _ ⟨A, 0, none⟩ _ g5 n1))).trans H84.out
    obtain ⟨V9, hV9⟩ : ∃ V, ((V8.setCell ⟨A, 0, none⟩ (.slice (some ⟨g5, 0, none⟩) 1 c5)).setCell ⟨B, 0, none⟩ (.int .i64 0)).setCell ⟨C, 0, none⟩ (.int .i64 0) = V := ⟨_, rfl⟩
    have k1 : V9.cell? ⟨A, 0, none⟩ = some (.slice (some ⟨g5, 0, none⟩) 1 c5) := by
      rw [← hV9]
      exact (World.cell?_of_block ((Below.heap_setCell _ ⟨C, 0, none⟩ _ A hAC).trans (Below.heap_setCell _ ⟨B, 0, none⟩ _ A hAB))).trans s9.l.cell
    have k2 : V9.cell? ⟨B, 0, none⟩ = some (.int .i64 0) := by
      rw [← hV9]
      exact (World.cell?_of_block (Below.heap_setCell _ ⟨C, 0, none⟩ _ B hBC)).trans (s9.a.set (.int .i64 0)).cell
    have k3 : V9.cell? ⟨C, 0, none⟩ = some (.int .i64 0) := by
      rw [← hV9]
      exact (Boxed.set (.int .i64 0) ((Below.heap_setCell _ ⟨B, 0, none⟩ _ C hCB).trans s9.e)).cell
    rw [hV9] at hb9 h94 ⊢
    have HB9 := Lib.hid hb9; have H94 := Lib.hid h94
    clear hb9 h94 s9 hV9 l8 fl8 ll8 a8 fa8 la8 e8 fe8 le8 c8
    refine leaves_cons (f := 39) (args := #[.pointer (some ⟨A, 0, none⟩), .pointer (some ⟨B, 0, none⟩), .pointer (some ⟨C, 0, none⟩)]) (by simp) (by simp [go_sem]) ?_
    refine (parse1_idle _ _ _ _).mono ?_
    rintro e u' w'' ⟨rfl, rfl, rfl⟩
    simp [Leaves, settle, results, Tryz.results14, go_sem, k1, k2, k3]
    exact ⟨H94.out, HB9.out⟩
end Go.Proofs.YtlaidjgdipacgaaGreatDoor
end
