/-
  The walk over greatseallaw07.live: the chapter's example holds.
-/
import Derived.Test.YtpmiihmhfagfoaaDoorEa
import Derived.Test.YtpmiihmhfagfoaaDoorEf
import Derived.Test.YtpmiihmhfagfoaaDoorEg
namespace Go.Proofs.YtpmiihmhfagfoaaDoor
open Go.RowKit

def lX : Dm.It := .mk 48 [] [.mk 2 [5] [], .mk 2 [128] [], .mk 12 [97, 98] []]
def lB : List Int := [48, 10, 2, 1, 5, 2, 1, 128, 12, 2, 97, 98]
theorem lX_may : Dm.may 8 lX = true := by kernel_rfl
theorem lX_len : Dm.len lX = 12 := by kernel_rfl
theorem lX_bytes : Dm.bytes lX = lB := by kernel_rfl
theorem lX_get : getAt lB 0 = .ok (lX, 12) := by kernel_rfl
theorem l2_get : getAt [48, 129, 1, 0] 0 = .error 71 := by kernel_rfl
theorem l3_get : getAt [2, 1] 0 = .error 70 := by kernel_rfl
theorem l5 : intB 5 = [5] := by kernel_rfl
theorem l128 : intB (-128) = [128] := by kernel_rfl
theorem l129 : intB (-129) = [255, 127] := by kernel_rfl
theorem lab : strB ⟨#[97, 98]⟩ = [97, 98] := rfl
theorem las1 : asE (.mk 2 [255, 127] []) 2 = 0 := by kernel_rfl
theorem las2 : asE (.mk 2 [5] []) 12 = 72 := by kernel_rfl
theorem las3 : asE lX 48 = 0 := by kernel_rfl
theorem lnum : numI [255, 127] = -129 := by kernel_rfl
theorem lno : Dm.may 8 (.mk 3 [] []) = false := by kernel_rfl
theorem lstr : strOfNums lB = ⟨#[48, 10, 2, 1, 5, 2, 1, 128, 12, 2, 97, 98]⟩ := rfl

theorem bytes_lit {l : List Int} (h : (l.all fun x => decide (0 ≤ x) && decide (x < 256)) = true) : ∀ x ∈ l, byte x := by
  intro x hx
  have := List.all_eq_true.1 h x hx
  simp only [Bool.and_eq_true, decide_eq_true_eq] at this
  unfold byte; omega
theorem lB_byte : ∀ x ∈ lB, byte x := bytes_lit (by decide)
/-- What holds from the example's item got on. -/
structure L7 (w V : World) (B1 B2 : Nat) (a4 : Option Addr) (c4 : Nat) (ab : Option Addr) (cb : Nat) (ay : Option Addr) (cy : Nat) (az : Option Addr) (cz : Nat) : Prop where
  k : KindsAt V
  b : Below w.heap.size w V
  t : Trip V B1 25 (.int .i64 48) (.slice none 0 0) (.slice a4 3 c4)
  x : ItP V (.slice none 0 0) (.slice a4 3 c4) lX
  r : Row .u8 V (.slice ab 12 cb) lB
  u : Trip V B2 25 (.int .i64 48) (.slice ay 0 cy) (.slice az 3 cz)
  y : ItP V (.slice ay 0 cy) (.slice az 3 cz) lX
theorem L7.stp {w V V' : World} {B1 B2 : Nat} {a4 : Option Addr} {c4 : Nat} {ab : Option Addr} {cb : Nat} {ay : Option Addr} {cy : Nat} {az : Option Addr} {cz : Nat} (h : L7 w V B1 B2 a4 c4 ab cb ay cy az cz) (hb : Below V.heap.size V V') : L7 w V' B1 B2 a4 c4 ab cb ay cy az cz :=
  ⟨h.k.below hb, h.b.trans (hb.mono h.b.size), trip_stp h.t hb, h.x.below hb, h.r.below hb, trip_stp h.u hb, h.y.below hb⟩
theorem L7.alloc {w V : World} {B1 B2 : Nat} {a4 : Option Addr} {c4 : Nat} {ab : Option Addr} {cb : Nat} {ay : Option Addr} {cy : Nat} {az : Option Addr} {cz : Nat} (h : L7 w V B1 B2 a4 c4 ab cb ay cy az cz) (o : Obj) : L7 w (V.alloc o) B1 B2 a4 c4 ab cb ay cy az cz :=
  h.stp ((Below.refl _ V).alloc (Nat.le_refl _) o)
/-- Get of bytes that tell none. -/
theorem Get_none (v : Value) (l : List Int) (c : Int) (w : World) (hk : KindsAt w) (h : Row .u8 w v l) (hl : l.length ≤ 1000000) (hg : getAt l 0 = .error c) :
    Calls Tryd.prog 16 #[v, .int .i64 0] w fun e w' => e = .returned (.tuple #[noV, .int .i64 0, .int .i64 c]) ∧ Below w.heap.size w w' :=
  (Get_any v l 0 w hk h hl).mono fun e w' ⟨h, hb⟩ => by rw [hg] at h; exact ⟨h, hb⟩
theorem Get_lX (v : Value) (w : World) (hk : KindsAt w) (h : Row .u8 w v lB) :
    Calls Tryd.prog 16 #[v, .int .i64 0] w fun e w' => (∃ ab cb al cl, e = .returned (.tuple #[.agg #[.int .i64 48, .slice ab 0 cb, .slice al 3 cl], .int .i64 12, .int .i64 0]) ∧ ItP w' (.slice ab 0 cb) (.slice al 3 cl) lX) ∧ Below w.heap.size w w' :=
  (Get_any v lB 0 w hk h (by decide)).mono fun e w' ⟨h, hb⟩ => by
    rw [lX_get] at h
    obtain ⟨ab, cb, al, cl, he, ho⟩ := h
    exact ⟨⟨ab, cb, al, cl, he, ho.it⟩, hb⟩
theorem AsInt_129 (a : Option Addr) (c : Nat) (w : World) (hk : KindsAt w) (h : ItP w (.slice a 2 c) (.slice none 0 0) (.mk 2 [255, 127] [])) :
    Calls Tryd.prog 21 #[.agg #[.int .i64 2, .slice a 2 c, .slice none 0 0]] w fun e w' => e = .returned (.tuple #[.int .i64 (-129), .int .i64 0]) ∧ Below w.heap.size w w' :=
  (AsInt_any (.mk 2 [255, 127] []) _ _ w hk h (by decide)).mono fun e w' ⟨⟨v, he, hv⟩, hb⟩ => by
    rw [las1] at he hv
    rw [if_pos rfl] at hv
    have hv' : v = .int .i64 (numI [255, 127]) := hv
    rw [lnum] at hv'
    subst hv'
    exact ⟨he, hb⟩
theorem AsText_5 (a : Option Addr) (c : Nat) (w : World) (hk : KindsAt w) (h : ItP w (.slice a 1 c) (.slice none 0 0) (.mk 2 [5] [])) :
    Calls Tryd.prog 27 #[.agg #[.int .i64 2, .slice a 1 c, .slice none 0 0]] w fun e w' => e = .returned (.tuple #[.string ByteArray.empty, .int .i64 72]) ∧ Below w.heap.size w w' :=
  (AsText_any (.mk 2 [5] []) _ _ w hk h (by decide)).mono fun e w' ⟨⟨v, he, hv⟩, hb⟩ => by
    rw [las2] at he hv
    rw [if_neg (by decide)] at hv
    subst hv
    exact ⟨he, hb⟩
theorem AsSeq_lX (ay az : Option Addr) (cy cz : Nat) (w : World) (hk : KindsAt w) (h : ItP w (.slice ay 0 cy) (.slice az 3 cz) lX) :
    Calls Tryd.prog 25 #[.agg #[.int .i64 48, .slice ay 0 cy, .slice az 3 cz]] w fun e w' => (∃ a c, e = .returned (.tuple #[.slice a 3 c, .int .i64 0])) ∧ Below w.heap.size w w' :=
  (AsSeq_any lX _ _ w hk h (by decide) (by decide)).mono fun e w' ⟨⟨v, he, hv⟩, hb⟩ => by
    rw [las3] at he hv
    rw [if_pos rfl] at hv
    obtain ⟨a, c, rfl⟩ := ItsV.shape hv
    exact ⟨⟨a, c, he⟩, hb⟩
theorem Put_no (w : World) (hk : KindsAt w) :
    Calls Tryd.prog 14 #[.agg #[.int .i64 3, .slice none 0 0, .slice none 0 0]] w fun e w' => e = .returned (.tuple #[.slice none 0 0, .int .i64 1]) ∧ Below w.heap.size w w' :=
  (Put_any (.mk 3 [] []) (by decide) _ _ w hk ⟨by decide, Row.nil _ _, ItsV.nil _⟩).mono fun e w' ⟨h, hb⟩ => by
    unfold Putted at h
    rw [if_neg (by rw [lno]; decide)] at h
    exact ⟨h, hb⟩
/-- Int of a number whose bytes are known. -/
theorem Int_at (n : Int) (bs : List Int) (h : intB n = bs) (w : World) :
    Calls Tryd.prog 20 #[.int .i64 n] w fun e w' => (∃ a c, e = .returned (.agg #[.int .i64 2, .slice a bs.length c, .slice none 0 0]) ∧
      ItP w' (.slice a bs.length c) (.slice none 0 0) (.mk 2 bs [])) ∧ Below w.heap.size w w' := by
  subst h
  exact (Int_any n w).mono fun e w' ⟨⟨a, c, he, ho⟩, hb⟩ => ⟨⟨a, c, he, ho.it⟩, hb⟩
theorem three_items {w : World} {a1 a2 a3 : Option Addr} {c1 c2 c3 : Nat} {x y z : Dm.It} {n1 n2 n3 : Nat} (hx : ItP w (.slice a1 n1 c1) (.slice none 0 0) x) (hy : ItP w (.slice a2 n2 c2) (.slice none 0 0) y) (hz : ItP w (.slice a3 n3 c3) (.slice none 0 0) z) :
    ItsV (w.alloc (.cells #[.int .i64 x.tag, .slice a1 n1 c1, .slice none 0 0, .int .i64 y.tag, .slice a2 n2 c2, .slice none 0 0, .int .i64 z.tag, .slice a3 n3 c3, .slice none 0 0] 25)) (.slice (some ⟨w.heap.size, 0, none⟩) 3 3) [x, y, z] := by
  have hn := World.alloc_heap_new w (.cells #[.int .i64 x.tag, .slice a1 n1 c1, .slice none 0 0, .int .i64 y.tag, .slice a2 n2 c2, .slice none 0 0, .int .i64 z.tag, .slice a3 n3 c3, .slice none 0 0] 25)
  refine ⟨_, _, rfl, Nat.le_refl _, by unfold maxLen; decide, (fun h => by cases h), fun _ => ⟨w.heap.size, 0, rfl, by simp, ?_⟩⟩
  unfold ItemsAt
  refine ⟨ItemAt.of (by simp only [World.cell?, hn]; rfl) (by simp only [World.cell?, hn]; rfl) (by simp only [World.cell?, hn]; rfl) (hx.alloc _), ?_⟩
  unfold ItemsAt
  refine ⟨ItemAt.of (by simp only [World.cell?, hn]; rfl) (by simp only [World.cell?, hn]; rfl) (by simp only [World.cell?, hn]; rfl) (hy.alloc _), ?_⟩
  unfold ItemsAt
  refine ⟨ItemAt.of (by simp only [World.cell?, hn]; rfl) (by simp only [World.cell?, hn]; rfl) (by simp only [World.cell?, hn]; rfl) (hz.alloc _), ?_⟩
  unfold ItemsAt
  trivial

set_option maxRecDepth 100000 in
set_option maxHeartbeats 4000000 in
theorem live07_true (w : World) (hk : KindsAt w) : Calls Tryd.prog 12 #[] w fun e w' => e = .returned (.bool true) ∧ Below w.heap.size w w' := by
  have hC1 := Int_at 5 [5] l5 w
  go_enter Tryd.func12, Tryd.ntmps12
  go_wp2_with fail
  refine hC1.mono ?_; rintro e w1 ⟨⟨a1, c1, rfl, p1⟩, b1⟩
  clear hC1
  have hC2 := Int_at (-128) [128] l128 w1
  go_wp2_with fail
  refine hC2.mono ?_; rintro e w2 ⟨⟨a2, c2, rfl, p2⟩, hb⟩
  have p1 := p1.below hb
  have b2 := b1.trans (hb.mono b1.size)
  clear hC2 hb b1
  have hC3 := Text_mk ⟨#[97, 98]⟩ w2 (by decide)
  rw [lab] at hC3
  go_wp2_with fail
  refine hC3.mono ?_; rintro e w3 ⟨⟨a3, c3, rfl, o3⟩, hb⟩
  have p3 := o3.it
  have p1 := p1.below hb
  have p2 := p2.below hb
  have b3 := b2.trans (hb.mono b2.size)
  have its := three_items p1 p2 p3
  have b3 := b3.alloc b3.size (.cells #[.int .i64 2, .slice a1 1 c1, .slice none 0 0, .int .i64 2, .slice a2 1 c2, .slice none 0 0, .int .i64 12, .slice a3 2 c3, .slice none 0 0] 25)
  clear hC3 hb b2 o3 p1 p2 p3
  have k3 := hk.below b3
  have hC4 := Seq_mk _ _ _ its (by decide)
  have HB := Lib.hid b3; have K3 := Lib.hid k3
  clear b3 its k3 hk
  go_wp2_with fail
  refine hC4.mono ?_; rintro e w4 ⟨⟨a4, c4, rfl, px⟩, hb⟩
  have hp : ItP w4 (.slice none 0 0) (.slice a4 3 c4) lX := px
  have b4 := HB.out.trans (hb.mono HB.out.size)
  have k4 := K3.out.below hb
  have q4 := Trip.new w4 25 (.int .i64 48) (.slice none 0 0) (.slice a4 3 c4)
  obtain ⟨V4, hV4⟩ : ∃ V, w4.alloc (.cells #[.int .i64 48, .slice none 0 0, .slice a4 3 c4] 25) = V := ⟨_, rfl⟩
  obtain ⟨B1, hB1⟩ : ∃ B, w4.heap.size = B := ⟨_, rfl⟩
  have hp5 := hp.alloc (.cells #[.int .i64 48, .slice none 0 0, .slice a4 3 c4] 25)
  have b5 := b4.alloc b4.size (.cells #[.int .i64 48, .slice none 0 0, .slice a4 3 c4] 25)
  have k5 := k4.alloc (.cells #[.int .i64 48, .slice none 0 0, .slice a4 3 c4] 25)
  have hC5 := Put_any lX (by decide) _ _ _ k5 hp5
  rw [hV4] at q4 hp5 b5 k5 hC5
  rw [hB1] at q4
  have HV4 := Lib.hid hV4; have Q5 := Lib.hid q4; have HP5 := Lib.hid hp5; have HB5 := Lib.hid b5; have K5 := Lib.hid k5; have HB1 := Lib.hid hB1
  clear hC4 px hp b4 k4 hV4 hp5 b5 k5 HB K3 hb hB1 q4
  have hC5' : Calls Tryd.prog 14 #[.agg #[.int .i64 48, .slice none 0 0, .slice a4 3 c4]] V4 fun e w' => (∃ a c, e = .returned (.tuple #[.slice a 12 c, .int .i64 0]) ∧ Row .u8 w' (.slice a 12 c) lB) ∧ Below V4.heap.size V4 w' :=
    hC5.mono fun e w' ⟨hP, hb⟩ => by
      unfold Putted at hP
      rw [if_pos lX_may, if_pos (by rw [lX_len]; decide), lX_len, lX_bytes] at hP
      obtain ⟨a, c, he, ho⟩ := hP
      exact ⟨⟨a, c, he, Row.of_bytes ho lB_byte⟩, hb⟩
  clear hC5
  go_wp2_with fail
  rw [HV4.out]
  (try rw [HB1.out])
  (try go_wp2_with fail)
  refine hC5'.mono ?_; rintro e w6 ⟨⟨ab, cb, rfl, rb⟩, hb⟩
  have k6 := K5.out.below hb
  have hC6 := Get_lX _ w6 k6 rb
  have b6 := HB5.out.trans (hb.mono HB5.out.size)
  have t6 := trip_stp Q5.out hb
  have x6 := HP5.out.below hb
  have K6 := Lib.hid k6; have B6 := Lib.hid b6; have T6 := Lib.hid t6; have X6 := Lib.hid x6; have R6 := Lib.hid rb
  clear hC5' k6 b6 t6 x6 rb hb HV4 Q5 HP5 HB5 K5 HB1
  go_wp2_with fail
  refine hC6.mono ?_; rintro e w7 ⟨⟨ay, cy, az, cz, rfl, y7⟩, hb⟩
  have st0 : L7 w (w7.alloc (.cells #[.int .i64 48, .slice ay 0 cy, .slice az 3 cz] 25)) B1 w7.heap.size a4 c4 ab cb ay cy az cz :=
    ⟨(K6.out.below hb).alloc _, (B6.out.trans (hb.mono B6.out.size)).alloc (Nat.le_trans B6.out.size hb.size) _, (trip_stp T6.out hb).alloc _, (X6.out.below hb).alloc _, (R6.out.below hb).alloc _, Trip.new _ _ _ _ _, y7.alloc _⟩
  have ST0 := Lib.hid st0
  clear hC6 hb y7 K6 B6 T6 X6 R6
  have r1 := Row.lit8 (w7.alloc (.cells #[.int .i64 48, .slice ay 0 cy, .slice az 3 cz] 25)) [48, 129, 1, 0] (by decide) (bytes_lit (by decide)) 4 rfl
  have st1 := ST0.out.alloc (.cells ([48, 129, 1, 0].map (Value.int .u8)).toArray 5)
  rw [World.size_alloc] at r1
  have hC7 := Get_none _ _ 71 _ st1.k r1 (by decide) l2_get
  have ST1 := Lib.hid st1
  clear st0 st1 r1
  go_wp2_with fail
  refine hC7.mono ?_; rintro e w8 ⟨rfl, hb⟩
  have st2 := (ST1.out.stp hb).alloc (.cells #[.int .i64 0, .slice none 0 0, .slice none 0 0] 25)
  have r2 := Row.lit8 (w8.alloc (.cells #[.int .i64 0, .slice none 0 0, .slice none 0 0] 25)) [2, 1] (by decide) (bytes_lit (by decide)) 2 rfl
  have st3 := st2.alloc (.cells ([2, 1].map (Value.int .u8)).toArray 5)
  rw [World.size_alloc] at r2
  have hC8 := Get_none _ _ 70 _ st3.k r2 (by decide) l3_get
  have ST3 := Lib.hid st3
  clear hC7 hb st2 st3 r2 ST1 ST0
  go_wp2_with fail
  refine hC8.mono ?_; rintro e w9 ⟨rfl, hb⟩
  have st4 := (ST3.out.stp hb).alloc (.cells #[.int .i64 0, .slice none 0 0, .slice none 0 0] 25)
  have hC9 := Int_at (-129) [255, 127] l129 (w9.alloc (.cells #[.int .i64 0, .slice none 0 0, .slice none 0 0] 25))
  have ST4 := Lib.hid st4
  clear hC8 hb st4 ST3
  go_wp2_with fail
  refine hC9.mono ?_; rintro e w10 ⟨⟨a9, c9, rfl, p9⟩, hb⟩
  have st5 := ST4.out.stp hb
  have hC10 := AsInt_129 a9 c9 w10 st5.k p9
  have ST5 := Lib.hid st5
  clear hC9 hb st5 ST4 p9
  go_wp2_with fail
  refine hC10.mono ?_; rintro e w11 ⟨rfl, hb⟩
  have st6 := ST5.out.stp hb
  have hC11 := Int_at 5 [5] l5 w11
  have ST6 := Lib.hid st6
  clear hC10 hb st6 ST5
  go_wp2_with fail
  refine hC11.mono ?_; rintro e w12 ⟨⟨a12, c12, rfl, p12⟩, hb⟩
  have st7 := ST6.out.stp hb
  have hC12 := AsText_5 a12 c12 w12 st7.k p12
  have ST7 := Lib.hid st7
  clear hC11 hb st7 ST6 p12
  go_wp2_with fail
  refine hC12.mono ?_; rintro e w13 ⟨rfl, hb⟩
  have st8 := ST7.out.stp hb
  have hC13 := Put_no w13 st8.k
  have ST8 := Lib.hid st8
  clear hC12 hb st8 ST7
  go_wp2_with fail
  refine hC13.mono ?_; rintro e w14 ⟨rfl, hb⟩
  have st9 := ST8.out.stp hb
  have hC14 := AsSeq_lX ay az cy cz w14 st9.k st9.y
  have u0 := st9.u.cell0; have u1 := st9.u.cell1; have u2 := st9.u.cell2
  have ST9 := Lib.hid st9
  clear hC13 hb st9 ST8
  go_wp2_with fail
  refine hC14.mono ?_; rintro e w15 ⟨⟨a15, c15, rfl⟩, hb⟩
  have st10 := ST9.out.stp hb
  have kc := st10.r.convert
  rw [lstr] at kc
  have hC15 := Same_any lX lX w15 _ _ _ _ st10.x st10.y
  have hE : Dm.eqIt lX lX = true := (Dm.eqIt_iff _ _).2 rfl
  rw [hE] at hC15
  have hC15' : Calls Tryd.prog 19 #[.agg #[.int .i64 48, .slice none 0 0, .slice a4 3 c4], .agg #[.int .i64 48, .slice ay 0 cy, .slice az 3 cz]] w15 fun e w' => e = .returned (.bool true) ∧ Below w15.heap.size w15 w' := hC15
  have u0 := st10.u.cell0; have u1 := st10.u.cell1; have u2 := st10.u.cell2
  have t0 := st10.t.cell0; have t1 := st10.t.cell1; have t2 := st10.t.cell2
  have ST10 := Lib.hid st10
  clear hC14 hb st10 ST9 hC15 hE
  go_wp2_with fail
  refine hC15'.mono ?_; rintro e w16 ⟨rfl, hb⟩
  have hB := ST10.out.b.trans (hb.mono ST10.out.b.size)
  clear hC15' hb
  go_wp2_with fail
  go_ret
  exact ⟨rfl, hB⟩
end Go.Proofs.YtpmiihmhfagfoaaDoor
