/-
  The walk over wal.Append.
-/
import Derived.Test.YtiijlakilogekaaWx
import Derived.Test.YtiijlakilogekaaBc
import Derived.Deep.RegionHeld3
namespace Go.Proofs.Ytiijlakilogekaa
open Go.RowKit

/-- A step of the walk by a call: what lay there lies. -/
def Stp (w w' : World) : Prop := Below w.heap.size w w'

theorem Row.stp {k : IntKind} {w w' : World} {v : Value} {l : List Int} (h : Row k w v l) (s : Stp w w') : Row k w' v l := h.below s

theorem bel_stp {w X X' : World} (h : Below w.heap.size w X) (s : Stp X X') : Below w.heap.size w X' := h.trans (s.mono h.size)
theorem bel_alloc {w X : World} (h : Below w.heap.size w X) (o : Obj) : Below w.heap.size w (X.alloc o) := h.alloc h.size o
theorem bel_set {w X : World} (h : Below w.heap.size w X) {p : Addr} (hp : w.heap.size ≤ p.block) (u : Value) : Below w.heap.size w (X.setCell p u) := h.setCell hp u
theorem bel_drew {w X : World} (h : Below w.heap.size w X) : Below w.heap.size w X.drew := h.drew
/-- A slice whose memory, if it has any, lies at n or beyond. -/
def Past (n : Nat) (v : Value) : Prop := ∀ b o l c, v = .slice (some ⟨b, o, none⟩) l c → n ≤ b
/-- Check of a store that has just been stored. -/
theorem check_at (X : World) (g : Nat) (u v : Value) (S O : List Int) {R : Ending → World → Prop} (z : Duo X g 24 (.slice none 0 0) (.slice none 0 0))
    (ru : Row .u8 ((X.setCell ⟨g, 0, none⟩ u).setCell ⟨g, 1, none⟩ v) u S) (rv : Row .u8 ((X.setCell ⟨g, 0, none⟩ u).setCell ⟨g, 1, none⟩ v) v O) (n : S.length + O.length ≤ 65536)
    (h : ∀ w6, Stp ((X.setCell ⟨g, 0, none⟩ u).setCell ⟨g, 1, none⟩ v) w6 → Duo w6 g 24 u v → R (.returned (.int .i64 0)) w6) :
    Calls Try.prog 11 #[.agg #[u, v]] ((X.setCell ⟨g, 0, none⟩ u).setCell ⟨g, 1, none⟩ v) R := by
  refine (Check_ok u v S O _ ru rv n).mono ?_
  rintro e w6 ⟨rfl, hb⟩
  exact h w6 hb (((z.set0 u).set1 v).kept hb ((z.set0 u).set1 v).lt)

theorem check_new (X : World) (u v : Value) (S O : List Int) {R : Ending → World → Prop}
    (ru : Row .u8 (X.alloc (.cells #[u, v] 24)) u S) (rv : Row .u8 (X.alloc (.cells #[u, v] 24)) v O) (n : S.length + O.length ≤ 65536)
    (h : ∀ w6, Stp (X.alloc (.cells #[u, v] 24)) w6 → Duo w6 X.heap.size 24 u v → R (.returned (.int .i64 0)) w6) :
    Calls Try.prog 11 #[.agg #[u, v]] (X.alloc (.cells #[u, v] 24)) R := by
  refine (Check_ok u v S O _ ru rv n).mono ?_
  rintro e w6 ⟨rfl, hb⟩
  exact h w6 hb ((Duo.new X _ u v).kept hb (Duo.new X _ u v).lt)

theorem Duo.new' (W : World) (t : TypeId) (x y : Value) (g : Nat) (hg : g = W.heap.size) : Duo (W.alloc (.cells #[x, y] t)) g t x y := by subst hg; exact Duo.new W t x y
theorem rws_lit2 {w : World} {v1 v2 : Value} {l1 l2 : List Int} (t : TypeId) (g : Nat) (hg : g = w.heap.size) (h1 : Row .u8 w v1 l1) (h2 : Row .u8 w v2 l2) : Rws .u8 (w.alloc (.cells #[v1, v2] t)) (.slice (some ⟨g, 0, none⟩) 2 2) [l1, l2] := by
  subst hg; exact Rws.lit2 t h1 h2
theorem Rws.stp {k : IntKind} {w w' : World} {v : Value} {ls : List (List Int)} (h : Rws k w v ls) (s : Stp w w') : Rws k w' v ls := h.below s
theorem Duo.stp {w w' : World} {B : Nat} {t : TypeId} {x y : Value} (h : Duo w B t x y) (s : Stp w w') : Duo w' B t x y := h.kept s h.lt

set_option maxRecDepth 100000 in
set_option maxHeartbeats 4000000 in
theorem Append_far (v1 v2 v : Value) (S O l : List Int) (w : World) (h1 : Row .u8 w v1 S) (h2 : Row .u8 w v2 O) (h : Row .u8 w v l) (n1 : S.length ≤ 30000) (n2 : O.length ≤ 30000) (nl : l.length ≤ 4096) (hg : Wm.good (S ++ O) = (S ++ O).length) :
    Calls Try.prog 6 #[.agg #[v1, v2], v] w fun e w' => ∃ x1 x2, e = .returned (.tuple #[.agg #[x1, x2], .int .i64 0]) ∧ Row .u8 w' x1 S ∧ Row .u8 w' x2 (O ++ Wm.frame l) ∧ Past w.heap.size x1 ∧ Past w.heap.size x2 ∧ Below w.heap.size w w' := by
  have H1 := Lib.hid h1; have H2 := Lib.hid h2; have H := Lib.hid h
  have HG := Lib.hid hg
  obtain ⟨a1, c1, rfl, -⟩ := h1
  obtain ⟨a2, c2, rfl, -⟩ := h2
  obtain ⟨a, c, rfl, -⟩ := h
  clear hg
  go_enter Try.func6, Try.ntmps6
  go_wp2_with fail
  refine (Fix_any _ _ S O _ ((H1.out.alloc _).alloc _) ((H2.out.alloc _).alloc _) (by omega) (by omega)).mono ?_; rintro e w1 ⟨y1, y2, rfl, hy1, hy2, hb1⟩
  rw [HG.out]
  obtain ⟨b1, p1, d1, rfl⟩ : ∃ b p d, y1 = .slice b p d := by obtain ⟨a, c, e, -⟩ := hy1; exact ⟨_, _, _, e⟩
  obtain ⟨b2, p2, d2, rfl⟩ : ∃ b p d, y2 = .slice b p d := by obtain ⟨a, c, e, -⟩ := hy2; exact ⟨_, _, _, e⟩
  rw [show (S ++ O).length - (S ++ O).length = 0 by omega]
  have dS : Duo w1 w.heap.size 24 (.slice a1 S.length c1) (.slice a2 O.length c2) := ((Duo.new w 24 (.slice a1 S.length c1) (.slice a2 O.length c2)).alloc (.cells #[.slice none 0 0, .slice none 0 0] 24)).kept hb1 (by simp; omega)
  have dX : Duo w1 (w.heap.size + 1) 24 (.slice none 0 0) (.slice none 0 0) := by
    have h := Duo.new (w.alloc (.cells #[.slice a1 S.length c1, .slice a2 O.length c2] 24)) 24 (.slice none 0 0) (.slice none 0 0)
    rw [World.size_alloc] at h
    exact h.kept hb1 (by simp)
  have hsz1 : w.heap.size + 2 ≤ w1.heap.size := by have := hb1.size; simp at this; omega
  have hB1 : Below w.heap.size w w1 := (((Below.refl _ w).alloc (Nat.le_refl _) (.cells #[.slice a1 S.length c1, .slice a2 O.length c2] 24)).alloc (by simp) (.cells #[.slice none 0 0, .slice none 0 0] 24)).trans (hb1.mono (by simp; omega))
  clear hb1
  have s0 := dS.cell0
  have s1 := dS.cell1
  have lt1 : w.heap.size < w1.heap.size := by omega
  clear hy1 hy2
  go_wp2_with fail
  refine (Check_ok _ _ S O _ ((H1.out.below hB1).alloc _) ((H2.out.below hB1).alloc _) (by omega)).mono ?_; rintro e w2 ⟨rfl, hb2⟩
  have hb2' := ((Below.refl w1.heap.size w1).alloc (Nat.le_refl _) (.cells #[.slice b1 p1 d1, .slice b2 p2 d2] 24)).trans (hb2.mono (by simp))
  have hB2 := hB1.trans (hb2'.mono hB1.size)
  have dS2 := dS.kept hb2' (by omega)
  have dX2 := dX.kept hb2' (by omega)
  have hsz2 : w.heap.size + 2 ≤ w2.heap.size := by have := hb2'.size; omega
  have HR1 := Lib.hid (H1.out.below hB2)
  have HR2 := Lib.hid (H2.out.below hB2)
  have HR := Lib.hid (H.out.below hB2)
  clear s0 s1 dS dX hb2 lt1 hb2'
  have s0 := dS2.cell0
  have s1 := dS2.cell1
  go_wp2_with fail
  have lt0 : w.heap.size < w2.heap.size := by omega
  have ne20 : ¬ w.heap.size = w2.heap.size := by omega
  have ne21 : ¬ w2.heap.size = w.heap.size := by omega
  have dS3 : Duo w2.drew w.heap.size 24 (.slice a1 S.length c1) (.slice a2 O.length c2) := dS2
  have HR1d : Hid (Row .u8 w2.drew (.slice a1 S.length c1) S) := Lib.hid HR1.out
  have HR2d : Hid (Row .u8 w2.drew (.slice a2 O.length c2) O) := Lib.hid HR2.out
  have hB2d : Below w.heap.size w w2.drew := hB2.drew
  have HRd : Hid (Row .u8 w2.drew (.slice a l.length c) l) := Lib.hid HR.out
  go_region_held3 (fun w' => w'.cell? ⟨w.heap.size, 0, none⟩ = some (.slice a1 S.length c1) ∧ w'.cell? ⟨w.heap.size, 1, none⟩ = some (.slice a2 O.length c2))
    (first | go_keep | (refine ⟨?_, ?_⟩ <;> assumption))
    (first
      | (go_at_call 17
         refine (BClone_any _ S _ (by repeat (first | exact HR1d.out | refine Row.alloc ?_ _ | refine Row.stp ?_ (by assumption))) (by omega)).mono ?_
         rintro e w3 ⟨r3, rfl, hown3, hb3⟩
         have st3 : Stp _ w3 := hb3
         have d3 : Duo w3 w.heap.size 24 (.slice a1 S.length c1) (.slice a2 O.length c2) := by repeat (first | exact dS3 | refine Duo.alloc ?_ _ | refine Duo.stp ?_ (by assumption))
         have q30 := d3.cell0
         have q31 := d3.cell1
         have lt3 := d3.lt
         have ne30 : ¬ w.heap.size = w3.heap.size := by omega
         have ne31 : ¬ w.heap.size = w3.heap.size + 1 := by omega
         have ne32 : ¬ w3.heap.size = w.heap.size := by omega
         have ne33 : ¬ w3.heap.size + 1 = w.heap.size := by omega
         have sz3 := hb3.size
         (try simp at sz3)
         have lo3 := fun b o n' c' (e : r3 = .slice (some ⟨b, o, none⟩) n' c') => hown3.lt b (by rw [e]; rfl)
         obtain ⟨x3, k3, rfl, hr3⟩ := Row.of_bytes hown3 H1.out.all_byte
         have hr3 : Row .u8 w3 (.slice x3 S.length k3) S := ⟨x3, k3, rfl, hr3⟩
         have Hr3 := Lib.hid hr3
         clear hr3 hown3 hb3
         first | (have z3 : Duo w3 w2.heap.size 24 (.slice none 0 0) (.slice none 0 0) := ?_; rotate_left; (focus (refine Duo.stp ?_ (by assumption); (repeat (first | (refine Duo.new' _ _ _ _ _ ?_; focus (simp; done)) | refine Duo.alloc ?_ _ | refine Duo.stp ?_ (by assumption))); done)); have z30 := z3.cell0; have z31 := z3.cell1; have z32 := z3.free 0; have z33 := z3.free 1) | (have z3 : Duo w3 w4.heap.size 24 (.slice none 0 0) (.slice none 0 0) := ?_; rotate_left; (focus (refine Duo.stp ?_ (by assumption); (repeat (first | (refine Duo.new' _ _ _ _ _ ?_; focus (simp; done)) | refine Duo.alloc ?_ _ | refine Duo.stp ?_ (by assumption))); done)); have z30 := z3.cell0; have z31 := z3.cell1; have z32 := z3.free 0; have z33 := z3.free 1) | (have z3 : Duo w3 (w4.heap.size + 1) 24 (.slice none 0 0) (.slice none 0 0) := ?_; rotate_left; (focus (refine Duo.stp ?_ (by assumption); (repeat (first | (refine Duo.new' _ _ _ _ _ ?_; focus (simp; done)) | refine Duo.alloc ?_ _ | refine Duo.stp ?_ (by assumption))); done)); have z30 := z3.cell0; have z31 := z3.cell1; have z32 := z3.free 0; have z33 := z3.free 1) | (have z3 : Duo w3 w5.heap.size 24 (.slice none 0 0) (.slice none 0 0) := ?_; rotate_left; (focus (refine Duo.stp ?_ (by assumption); (repeat (first | (refine Duo.new' _ _ _ _ _ ?_; focus (simp; done)) | refine Duo.alloc ?_ _ | refine Duo.stp ?_ (by assumption))); done)); have z30 := z3.cell0; have z31 := z3.cell1; have z32 := z3.free 0; have z33 := z3.free 1) | skip)
      | (go_at_call 19
         refine (frame_any _ l _ (by repeat (first | exact HRd.out | refine Row.alloc ?_ _ | refine Row.stp ?_ (by assumption))) (by omega)).mono ?_
         rintro e w4 ⟨r4, rfl, hown4, hb4⟩
         have st4 : Stp _ w4 := hb4
         have d4 : Duo w4 w.heap.size 24 (.slice a1 S.length c1) (.slice a2 O.length c2) := by repeat (first | exact dS3 | refine Duo.alloc ?_ _ | refine Duo.stp ?_ (by assumption))
         have q40 := d4.cell0
         have q41 := d4.cell1
         have lt4 := d4.lt
         have ne40 : ¬ w.heap.size = w4.heap.size := by omega
         have ne41 : ¬ w.heap.size = w4.heap.size + 1 := by omega
         have ne42 : ¬ w4.heap.size = w.heap.size := by omega
         have ne43 : ¬ w4.heap.size + 1 = w.heap.size := by omega
         have sz4 := hb4.size
         (try simp at sz4)
         have lo4 := fun b o n' c' (e : r4 = .slice (some ⟨b, o, none⟩) n' c') => hown4.lt b (by rw [e]; rfl)
         obtain ⟨x4, k4, rfl, hr4⟩ := Row.of_bytes hown4 (Wm.frame_byte l H.out.all_byte)
         have hr4 : Row .u8 w4 (.slice x4 (Wm.frame l).length k4) (Wm.frame l) := ⟨x4, k4, rfl, hr4⟩
         have Hr4 := Lib.hid hr4
         clear hr4 hown4 hb4
         first | (have z4 : Duo w4 w2.heap.size 24 (.slice none 0 0) (.slice none 0 0) := ?_; rotate_left; (focus (refine Duo.stp ?_ (by assumption); (repeat (first | (refine Duo.new' _ _ _ _ _ ?_; focus (simp; done)) | refine Duo.alloc ?_ _ | refine Duo.stp ?_ (by assumption))); done)); have z40 := z4.cell0; have z41 := z4.cell1; have z42 := z4.free 0; have z43 := z4.free 1) | (have z4 : Duo w4 w3.heap.size 24 (.slice none 0 0) (.slice none 0 0) := ?_; rotate_left; (focus (refine Duo.stp ?_ (by assumption); (repeat (first | (refine Duo.new' _ _ _ _ _ ?_; focus (simp; done)) | refine Duo.alloc ?_ _ | refine Duo.stp ?_ (by assumption))); done)); have z40 := z4.cell0; have z41 := z4.cell1; have z42 := z4.free 0; have z43 := z4.free 1) | skip)
      | (go_at_call 18
         refine (Concat_any _ [O, Wm.frame l] _ (by (repeat (first | (refine rws_lit2 _ _ ?_ ?_ ?_; focus (simp; done)) | refine Rws.alloc ?_ _ | refine Rws.stp ?_ (by assumption))) <;> (repeat (first | exact HR2d.out | exact Hr4.out | refine Row.alloc ?_ _ | refine Row.stp ?_ (by assumption)))) (by simp [Wm.frame_length]; omega)).mono ?_
         rintro e w5 ⟨r5, rfl, hown5, hb5⟩
         have st5 : Stp _ w5 := hb5
         simp only [List.flatten_cons, List.flatten_nil, List.append_nil] at hown5
         have d5 : Duo w5 w.heap.size 24 (.slice a1 S.length c1) (.slice a2 O.length c2) := by repeat (first | exact dS3 | refine Duo.alloc ?_ _ | refine Duo.stp ?_ (by assumption))
         have q50 := d5.cell0
         have q51 := d5.cell1
         have lt5 := d5.lt
         have ne50 : ¬ w.heap.size = w5.heap.size := by omega
         have ne51 : ¬ w.heap.size = w5.heap.size + 1 := by omega
         have ne52 : ¬ w5.heap.size = w.heap.size := by omega
         have ne53 : ¬ w5.heap.size + 1 = w.heap.size := by omega
         have sz5 := hb5.size
         (try simp at sz5)
         have lo5 := fun b o n' c' (e : r5 = .slice (some ⟨b, o, none⟩) n' c') => hown5.lt b (by rw [e]; rfl)
         obtain ⟨x5, k5, rfl, hr5⟩ := Row.of_bytes hown5 (fun x hx => by rcases List.mem_append.1 hx with h | h; exact H2.out.all_byte x h; exact Wm.frame_byte l H.out.all_byte x h)
         have hr5 : Row .u8 w5 (.slice x5 (O ++ Wm.frame l).length k5) (O ++ Wm.frame l) := ⟨x5, k5, rfl, hr5⟩
         replace hr5 : Row .u8 w5 (.slice x5 (O.length + (Wm.frame l).length) k5) (O ++ Wm.frame l) := by rw [← List.length_append]; exact hr5
         have Hr5 := Lib.hid hr5
         clear hr5 hown5 hb5
         first | (have z5 : Duo w5 w2.heap.size 24 (.slice none 0 0) (.slice none 0 0) := ?_; rotate_left; (focus (refine Duo.stp ?_ (by assumption); (repeat (first | (refine Duo.new' _ _ _ _ _ ?_; focus (simp; done)) | refine Duo.alloc ?_ _ | refine Duo.stp ?_ (by assumption))); done)); have z50 := z5.cell0; have z51 := z5.cell1; have z52 := z5.free 0; have z53 := z5.free 1) | (have z5 : Duo w5 w3.heap.size 24 (.slice none 0 0) (.slice none 0 0) := ?_; rotate_left; (focus (refine Duo.stp ?_ (by assumption); (repeat (first | (refine Duo.new' _ _ _ _ _ ?_; focus (simp; done)) | refine Duo.alloc ?_ _ | refine Duo.stp ?_ (by assumption))); done)); have z50 := z5.cell0; have z51 := z5.cell1; have z52 := z5.free 0; have z53 := z5.free 1) | (have z5 : Duo w5 w4.heap.size 24 (.slice none 0 0) (.slice none 0 0) := ?_; rotate_left; (focus (refine Duo.stp ?_ (by assumption); (repeat (first | (refine Duo.new' _ _ _ _ _ ?_; focus (simp; done)) | refine Duo.alloc ?_ _ | refine Duo.stp ?_ (by assumption))); done)); have z50 := z5.cell0; have z51 := z5.cell1; have z52 := z5.free 0; have z53 := z5.free 1) | (have z5 : Duo w5 (w3.heap.size + 1) 24 (.slice none 0 0) (.slice none 0 0) := ?_; rotate_left; (focus (refine Duo.stp ?_ (by assumption); (repeat (first | (refine Duo.new' _ _ _ _ _ ?_; focus (simp; done)) | refine Duo.alloc ?_ _ | refine Duo.stp ?_ (by assumption))); done)); have z50 := z5.cell0; have z51 := z5.cell1; have z52 := z5.free 0; have z53 := z5.free 1) | (have z5 : Duo w5 (w4.heap.size + 1) 24 (.slice none 0 0) (.slice none 0 0) := ?_; rotate_left; (focus (refine Duo.stp ?_ (by assumption); (repeat (first | (refine Duo.new' _ _ _ _ _ ?_; focus (simp; done)) | refine Duo.alloc ?_ _ | refine Duo.stp ?_ (by assumption))); done)); have z50 := z5.cell0; have z51 := z5.cell1; have z52 := z5.free 0; have z53 := z5.free 1) | skip))
  all_goals
    go_wp2_with fail
    first
    | (fail_if_success (refine check_at _ _ _ _ S (O ++ Wm.frame l) ?_ ?_ ?_ ?_ ?_)
       refine check_new _ _ _ S (O ++ Wm.frame l) ?_ ?_ (by simp [Wm.frame_length]; omega) ?_
       · skip
         · repeat (first | exact Hr3.out | refine Row.alloc ?_ _ | refine Row.stp ?_ (by assumption))
         all_goals
           intro b' o' n' c' e
           have h := lo3 b' o' _ _ (by first | (cases e; rfl) | (injection e with e _ _; rw [e]) | (injection e with e _ _; subst e; rfl))
           simp at h ⊢
           omega
       · skip
         · repeat (first | exact Hr5.out | refine Row.alloc ?_ _ | refine Row.stp ?_ (by assumption))
         all_goals
           intro b' o' n' c' e
           have h := lo5 b' o' _ _ (by first | (cases e; rfl) | (injection e with e _ _; rw [e]) | (injection e with e _ _; subst e; rfl))
           simp at h ⊢
           omega
       · intro w6 st6 z6
         have c60 := z6.cell0
         have c61 := z6.cell1
         have x6 : Duo w6 (w.heap.size + 1) 24 (.slice none 0 0) (.slice none 0 0) := by
           refine Duo.stp ?_ st6
           skip
           · repeat (first | exact dX2 | refine Duo.alloc ?_ _ | refine Duo.stp ?_ (by assumption))
           all_goals (simp; omega)
         have x60 := x6.cell0
         have x61 := x6.cell1
         have x62 := x6.free 0
         have x63 := x6.free 1
         go_wp2_with fail
         have hz : Duo ((w6.setCell ⟨w.heap.size + 1, 0, none⟩ (.slice x3 S.length k3)).setCell ⟨w.heap.size + 1, 1, none⟩ (.slice x5 (O.length + (Wm.frame l).length) k5)) (w.heap.size + 1) 24 (.slice x3 S.length k3) (.slice x5 (O.length + (Wm.frame l).length) k5) := (x6.set0 _).set1 _
         refine bodyPost_ret (results_cell_tmp rfl _ _ (w.heap.size + 1) _ _ _ _ rfl hz rfl rfl rfl) rfl ⟨_, _, rfl, ?_, ?_, (fun b' o' n' c' e => ?_), (fun b' o' n' c' e => ?_), ?_⟩
         · refine Row.other (Row.other (Row.stp ?_ st6) ?_ _) ?_ _
           · repeat (first | exact Hr3.out | refine Row.alloc ?_ _ | refine Row.stp ?_ (by assumption))
           all_goals
             intro b' o' n' c' e
             have h := lo3 b' o' _ _ (by first | (cases e; rfl) | (injection e with e _ _; rw [e]) | (injection e with e _ _; subst e; rfl))
             simp at h ⊢
             omega
         · refine Row.other (Row.other (Row.stp ?_ st6) ?_ _) ?_ _
           · repeat (first | exact Hr5.out | refine Row.alloc ?_ _ | refine Row.stp ?_ (by assumption))
           all_goals
             intro b' o' n' c' e
             have h := lo5 b' o' _ _ (by first | (cases e; rfl) | (injection e with e _ _; rw [e]) | (injection e with e _ _; subst e; rfl))
             simp at h ⊢
             omega
         · have h := lo3 b' o' _ _ (by first | (cases e; rfl) | (injection e with e _ _; rw [e]) | (injection e with e _ _; subst e; rfl))
           simp at h ⊢
           omega
         · have h := lo5 b' o' _ _ (by first | (cases e; rfl) | (injection e with e _ _; rw [e]) | (injection e with e _ _; subst e; rfl))
           simp at h ⊢
           omega
         · refine bel_set (bel_set (bel_stp ?_ st6) ?_ _) ?_ _
           · repeat (first | exact hB2d | exact hB2 | refine bel_drew ?_ | refine bel_alloc ?_ _ | refine bel_stp ?_ (by assumption))
           all_goals (simp <;> omega))
    | (refine check_at _ _ _ _ S (O ++ Wm.frame l) ?_ ?_ ?_ (by simp [Wm.frame_length]; omega) ?_
       · repeat (first | assumption | (refine Duo.new' _ _ _ _ _ ?_; focus (simp; done)) | refine Duo.alloc ?_ _ | refine Duo.stp ?_ (by assumption))
       · refine Row.other (Row.other ?_ ?_ _) ?_ _
         · repeat (first | exact Hr3.out | refine Row.alloc ?_ _ | refine Row.stp ?_ (by assumption))
         all_goals
           intro b' o' n' c' e
           have h := lo3 b' o' _ _ (by first | (cases e; rfl) | (injection e with e _ _; rw [e]) | (injection e with e _ _; subst e; rfl))
           simp at h ⊢
           omega
       · refine Row.other (Row.other ?_ ?_ _) ?_ _
         · repeat (first | exact Hr5.out | refine Row.alloc ?_ _ | refine Row.stp ?_ (by assumption))
         all_goals
           intro b' o' n' c' e
           have h := lo5 b' o' _ _ (by first | (cases e; rfl) | (injection e with e _ _; rw [e]) | (injection e with e _ _; subst e; rfl))
           simp at h ⊢
           omega
       · intro w6 st6 z6
         have c60 := z6.cell0
         have c61 := z6.cell1
         have x6 : Duo w6 (w.heap.size + 1) 24 (.slice none 0 0) (.slice none 0 0) := by
           refine Duo.stp ?_ st6
           refine Duo.other (Duo.other ?_ ?_ _) ?_ _
           · repeat (first | exact dX2 | refine Duo.alloc ?_ _ | refine Duo.stp ?_ (by assumption))
           all_goals (simp; omega)
         have x60 := x6.cell0
         have x61 := x6.cell1
         have x62 := x6.free 0
         have x63 := x6.free 1
         go_wp2_with fail
         have hz : Duo ((w6.setCell ⟨w.heap.size + 1, 0, none⟩ (.slice x3 S.length k3)).setCell ⟨w.heap.size + 1, 1, none⟩ (.slice x5 (O.length + (Wm.frame l).length) k5)) (w.heap.size + 1) 24 (.slice x3 S.length k3) (.slice x5 (O.length + (Wm.frame l).length) k5) := (x6.set0 _).set1 _
         refine bodyPost_ret (results_cell_tmp rfl _ _ (w.heap.size + 1) _ _ _ _ rfl hz rfl rfl rfl) rfl ⟨_, _, rfl, ?_, ?_, (fun b' o' n' c' e => ?_), (fun b' o' n' c' e => ?_), ?_⟩
         · refine Row.other (Row.other (Row.stp (Row.other (Row.other ?_ ?_ _) ?_ _) st6) ?_ _) ?_ _
           · repeat (first | exact Hr3.out | refine Row.alloc ?_ _ | refine Row.stp ?_ (by assumption))
           all_goals
             intro b' o' n' c' e
             have h := lo3 b' o' _ _ (by first | (cases e; rfl) | (injection e with e _ _; rw [e]) | (injection e with e _ _; subst e; rfl))
             simp at h ⊢
             omega
         · refine Row.other (Row.other (Row.stp (Row.other (Row.other ?_ ?_ _) ?_ _) st6) ?_ _) ?_ _
           · repeat (first | exact Hr5.out | refine Row.alloc ?_ _ | refine Row.stp ?_ (by assumption))
           all_goals
             intro b' o' n' c' e
             have h := lo5 b' o' _ _ (by first | (cases e; rfl) | (injection e with e _ _; rw [e]) | (injection e with e _ _; subst e; rfl))
             simp at h ⊢
             omega
         · have h := lo3 b' o' _ _ (by first | (cases e; rfl) | (injection e with e _ _; rw [e]) | (injection e with e _ _; subst e; rfl))
           simp at h ⊢
           omega
         · have h := lo5 b' o' _ _ (by first | (cases e; rfl) | (injection e with e _ _; rw [e]) | (injection e with e _ _; subst e; rfl))
           simp at h ⊢
           omega
         · refine bel_set (bel_set (bel_stp (bel_set (bel_set ?_ ?_ _) ?_ _) st6) ?_ _) ?_ _
           · repeat (first | exact hB2d | exact hB2 | refine bel_drew ?_ | refine bel_alloc ?_ _ | refine bel_stp ?_ (by assumption))
           all_goals (simp <;> omega))
theorem Append_ok (v1 v2 v : Value) (S O l : List Int) (w : World) (h1 : Row .u8 w v1 S) (h2 : Row .u8 w v2 O) (h : Row .u8 w v l) (n1 : S.length ≤ 30000) (n2 : O.length ≤ 30000) (nl : l.length ≤ 4096) (hg : Wm.good (S ++ O) = (S ++ O).length) :
    Calls Try.prog 6 #[.agg #[v1, v2], v] w fun e w' => ∃ x1 x2, e = .returned (.tuple #[.agg #[x1, x2], .int .i64 0]) ∧ Row .u8 w' x1 S ∧ Row .u8 w' x2 (O ++ Wm.frame l) ∧ Below w.heap.size w w' :=
  (Append_far v1 v2 v S O l w h1 h2 h n1 n2 nl hg).mono fun _ _ ⟨x1, x2, e, r1, r2, _, _, hb⟩ => ⟨x1, x2, e, r1, r2, hb⟩
end Go.Proofs.Ytiijlakilogekaa
