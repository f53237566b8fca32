/-
  Walks over der.Oct, der.Bool.
-/
import Derived.Test.YtfdchdnkblmijaaGreatDoorDd
import Derived.Laws.Rows
namespace Go.Proofs.YtfdchdnkblmijaaGreatDoor
open Go.RowKit

theorem Row.off_trip {W : World} {R : Nat} {t : TypeId} {n : Int} {a1 a2 : Option Addr} {n1 n2 c1 c2 : Nat} {v : Value} {l : List Int} (h : Row .u8 W v l) (hd : Trip W R t (.int .i64 n) (.slice a1 n1 c1) (.slice a2 n2 c2)) : Off R v := fun b o m c e hn he => by
  obtain ⟨a, cap, e2, _, _, _, _, hc⟩ := h
  rw [e] at e2
  cases e2
  obtain ⟨b2, o2, e3, _, hcell⟩ := hc (by rintro rfl; simp at hn)
  cases e3
  subst he
  have h0 := hcell 0 (by omega)
  simp only [World.cell?, show W.heap[b]? = _ from hd, Nat.add_zero] at h0
  match o, h0 with
  | 0, h0 => simp at h0
  | 1, h0 => simp at h0
  | 2, h0 => simp at h0
  | k + 3, h0 => simp at h0
theorem set3 {W : World} {B : Nat} {t : TypeId} {x y z : Value} (h : Trip W B t x y z) (a b c : Value) : Trip (((W.setCell ⟨B, 0, none⟩ a).setCell ⟨B, 1, none⟩ b).setCell ⟨B, 2, none⟩ c) B t a b c := ((h.set0 a).set1 b).set2 c
theorem Row.aside3 {k : IntKind} {W : World} {v : Value} {l : List Int} (h : Row k W v l) {B : Nat} (hp : Off B v) (a b c : Value) : Row k (((W.setCell ⟨B, 0, none⟩ a).setCell ⟨B, 1, none⟩ b).setCell ⟨B, 2, none⟩ c) v l :=
  ((h.aside (p := ⟨B, 0, none⟩) hp a).aside (p := ⟨B, 1, none⟩) hp b).aside (p := ⟨B, 2, none⟩) hp c
theorem bel3 {n : Nat} {w W : World} (h : Below n w W) {B : Nat} (hB : n ≤ B) (a b c : Value) : Below n w (((W.setCell ⟨B, 0, none⟩ a).setCell ⟨B, 1, none⟩ b).setCell ⟨B, 2, none⟩ c) := ((h.setCell hB a).setCell hB b).setCell hB c
/-- What the makers hand back: an item of its own. -/
def Made (w' : World) (e : Ending) (x : Dm.It) : Prop := ∃ ab cb al cl, e = .returned (.agg #[.int .i64 x.tag, .slice ab x.b.length cb, .slice al x.l.length cl]) ∧ ItP w' (.slice ab x.b.length cb) (.slice al x.l.length cl) x

set_option maxRecDepth 100000 in
set_option maxHeartbeats 1000000 in
theorem Oct_any (v : Value) (l : List Int) (w : World) (h : Row .u8 w v l) (hl : l.length ≤ 1000000) :
    Calls Tryz.prog 18 #[v] w fun e w' => Made w' e (.mk 4 l []) ∧ Below w.heap.size w w' := by
  obtain ⟨B, hB⟩ : ∃ B, w.heap.size = B := ⟨_, rfl⟩
  rw [hB]
  have q0 := Trip.new w 45 (.int .i64 0) (.slice none 0 0) (.slice none 0 0)
  have hb0 := (Below.refl w.heap.size w).alloc (Nat.le_refl _) (.cells #[.int .i64 0, .slice none 0 0, .slice none 0 0] 45)
  obtain ⟨W, hW⟩ : ∃ W, w.alloc (.cells #[.int .i64 0, .slice none 0 0, .slice none 0 0] 45) = W := ⟨_, rfl⟩
  rw [hW] at q0 hb0
  have hC := Clone8_any v l W (h.below hb0) (by omega)
  have hby := Lib.hid h.all_byte
  rw [hB] at q0 hb0
  have HW := Lib.hid hW; have HB := Lib.hid hB
  have hBW := q0.lt
  obtain ⟨a, c, rfl⟩ := h.shape l.length rfl
  clear h hW hB
  go_enter Tryz.func18, Tryz.ntmps18
  go_wp2_with fail
  rw [HW.out]
  (try rw [HB.out])
  (try go_wp2_with fail)
  refine hC.mono ?_; rintro e w1 ⟨r, rfl, own, hb⟩
  have q1 := trip_stp q0 hb
  have hB1 := hb0.trans (hb.mono (Nat.le_of_lt hBW))
  have rr := Row.of_bytes own hby.out
  obtain ⟨ar, cr, rfl⟩ := rr.shape l.length rfl
  have hoff := rr.off_trip q1
  have RR := Lib.hid rr; have HO := Lib.hid hoff
  clear hC own rr hoff q0 hb hb0
  have f0 := q1.free 0; have f1 := q1.free 1; have f2 := q1.free 2; have x0 := q1.cell0; have x1 := q1.cell1; have x2 := q1.cell2; have xl := q1.lt
  go_wp2_with fail
  have hzz := set3 q1 (.int .i64 4) (.slice ar l.length cr) (.slice none 0 0)
  refine bodyPost_ret (results_cell_row rfl _ _ B _ _ _ _ rfl hzz Tryz.underlying45 rfl (by kernel_rfl)) rfl ?_
  exact ⟨⟨ar, cr, none, 0, rfl, (by decide : (Lit.int .i64 4).wf = true), RR.out.aside3 HO.out _ _ _, ItsV.nil _⟩, bel3 hB1 (Nat.le_refl _) _ _ _⟩
end Go.Proofs.YtfdchdnkblmijaaGreatDoor
