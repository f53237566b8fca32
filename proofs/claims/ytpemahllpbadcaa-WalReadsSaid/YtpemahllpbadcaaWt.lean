/-
  The walk over law20's put: a store with more behind, one by one, under the guards.
-/
import Derived.Test.YtpemahllpbadcaaWv
import Derived.Test.YtpemahllpbadcaaRs
namespace Go.Proofs.Ytpemahllpbadcaa
open Go.RowKit

/-- A slice that has bytes does not lie in the block g. -/
def Off (g : Nat) (v : Value) : Prop := ∀ b o l c, v = .slice (some ⟨b, o, none⟩) l c → 0 < l → b ≠ g
theorem Row.off {k : IntKind} {w : World} {v : Value} {l : List Int} {g : Nat} (h : Row k w v l) (hg : w.heap.size ≤ g) : Off g v := by
  intro b o n c e hn
  obtain ⟨a, cap, h1, h2, h3, h0, h4, h5⟩ := h
  rw [h1] at e
  cases e
  obtain ⟨b', off, e, hlt, hc⟩ := h5 (by rintro rfl; simp at hn)
  cases e
  omega
theorem Past.off {n g : Nat} {v : Value} (h : Past n v) (hg : g < n) : Off g v := fun b o l c e _ => by have := h b o l c e; omega
/-- A store elsewhere leaves a row as it was. -/
theorem Row.aside {k : IntKind} {w : World} {v : Value} {l : List Int} (h : Row k w v l) {p : Addr} (hp : Off p.block v) (u : Value) : Row k (w.setCell p u) v l := by
  obtain ⟨a, cap, h1, h2, h3, h0, h4, h5⟩ := h
  refine ⟨a, cap, h1, h2, h3, h0, h4, fun hne => ?_⟩
  obtain ⟨b, off, e, hlt, hc⟩ := h5 hne
  subst e
  exact ⟨b, off, rfl, by simpa using hlt, fun i hi => (World.cell?_setCell_other w p ⟨b, off + i, none⟩ u (fun e => hp _ _ _ _ h1 (by omega) (by subst e; rfl))).trans (hc i hi)⟩

/-- What lies in a cell that is there. -/
def Has (W : World) (p : Addr) (v : Value) : Prop := p.block < W.heap.size ∧ W.cell? p = some v
theorem Has.stp {W W' : World} {p : Addr} {v : Value} (h : Has W p v) (s : Stp W W') : Has W' p v := ⟨Nat.lt_of_lt_of_le h.1 s.size, (s.cell h.1).trans h.2⟩
theorem Has.alloc {W : World} {p : Addr} {v : Value} (h : Has W p v) (o : Obj) : Has (W.alloc o) p v := ⟨by simp; have := h.1; omega, (((Below.refl _ W).alloc (Nat.le_refl _) o).cell h.1).trans h.2⟩

theorem Wm.frames_snoc (ls : List (List Int)) (k : Nat) (h : k < ls.length) : Wm.frames (ls.take (k + 1)) = Wm.frames (ls.take k) ++ Wm.frame (ls[k]?.getD []) := by
  rw [List.take_succ_eq_append_getElem h, Wm.frames_append, List.getElem?_eq_getElem h]
  simp [Wm.frames]
theorem Wm.frames_take_le (ls : List (List Int)) (k : Nat) : (Wm.frames (ls.take k)).length ≤ (Wm.frames ls).length := by
  conv => rhs; rw [← List.take_append_drop k ls, Wm.frames_append]
  simp
theorem Wm.good_frames (b : List Int) (ls : List (List Int)) (h : Wm.good b = b.length) (hl : ∀ i, i < ls.length → (ls[i]?.getD []).length ≤ 4096) : Wm.read (b ++ Wm.frames ls) = Wm.read b ++ ls ∧ Wm.good (b ++ Wm.frames ls) = (b ++ Wm.frames ls).length := by
  have h' : ∀ x ∈ ls, x.length ≤ 4096 := by
    intro x hx
    obtain ⟨i, hi, rfl⟩ := List.getElem_of_mem hx
    have := hl i hi
    rwa [List.getElem?_eq_getElem hi] at this
  obtain ⟨g1, g2⟩ := Wm.read_append b (Wm.frames ls) h
  obtain ⟨f1, f2⟩ := Wm.read_frames ls h'
  rw [g1, g2, f1, f2]
  exact ⟨rfl, by simp⟩

set_option maxRecDepth 100000 in
set_option maxHeartbeats 2000000 in
theorem put_far (v1 v2 v : Value) (S O : List Int) (ls : List (List Int)) (w : World) (h1 : Row .u8 w v1 S) (h2 : Row .u8 w v2 O) (h : Rws .u8 w v ls)
    (n1 : S.length ≤ 30000) (n2 : O.length + (Wm.frames ls).length ≤ 30000) (nl : ∀ i, i < ls.length → (ls[i]?.getD []).length ≤ 4096) (n20 : ls.length ≤ 1000) (hg : Wm.good (S ++ O) = (S ++ O).length) :
    Calls Try.prog 28 #[.agg #[v1, v2], v] w fun e w' => ∃ x1 x2, e = .returned (.tuple #[.agg #[x1, x2], .bool true]) ∧ Row .u8 w' x1 S ∧ Row .u8 w' x2 (O ++ Wm.frames ls) ∧ (∀ g, g < w.heap.size → Off g v1 → Off g v2 → Off g x1 ∧ Off g x2) ∧ Below w.heap.size w w' := by
  have H1 := Lib.hid h1; have H2 := Lib.hid h2
  have HG := Lib.hid hg; have HNl := Lib.hid nl
  obtain ⟨a1, c1, rfl, -⟩ := h1
  obtain ⟨a2, c2, rfl, -⟩ := h2
  obtain ⟨a, cap, V, rfl, hlc, hcm, -, hr, hV⟩ := h
  unfold maxLen at hcm
  have HR := Lib.hid hr
  have HV := Lib.hid hV
  clear hg nl hr hV
  obtain ⟨B, hB⟩ : ∃ B, w.heap.size = B := ⟨_, rfl⟩
  have HB := Lib.hid hB
  have dS0 : Duo ((w.alloc (.cells #[.slice a1 S.length c1, .slice a2 O.length c2] 24)).alloc (.cells #[.slice none 0 0, .slice none 0 0] 24)) B 24 (.slice a1 S.length c1) (.slice a2 O.length c2) := by
    rw [← hB]; exact (Duo.new _ _ _ _).alloc _
  have dX0 : Duo ((w.alloc (.cells #[.slice a1 S.length c1, .slice a2 O.length c2] 24)).alloc (.cells #[.slice none 0 0, .slice none 0 0] 24)) (B + 1) 24 (.slice none 0 0) (.slice none 0 0) := by
    have h := Duo.new (w.alloc (.cells #[.slice a1 S.length c1, .slice a2 O.length c2] 24)) 24 (.slice none 0 0) (.slice none 0 0)
    rw [World.size_alloc, hB] at h
    exact h
  have bX0 : Below B w ((w.alloc (.cells #[.slice a1 S.length c1, .slice a2 O.length c2] 24)).alloc (.cells #[.slice none 0 0, .slice none 0 0] 24)) := by
    rw [← hB]; exact ((Below.refl _ w).alloc (Nat.le_refl _) _).alloc (by simp) _
  go_enter Try.func28, Try.ntmps28
  go_wp2_with fail
  (try rw [hB])
  go_loopw [6] (fun i wr => ∃ (k : Nat) (x1 x2 : Value), k ≤ ls.length ∧ i = .int .i64 k ∧ Row .u8 wr x1 S ∧ Row .u8 wr x2 (O ++ Wm.frames (ls.take k)) ∧ Off B x1 ∧ Off B x2 ∧ Off (B + 1) x1 ∧ Off (B + 1) x2 ∧ Hid (∀ g, g < B → Off g (.slice a1 S.length c1) → Off g (.slice a2 O.length c2) → Off g x1 ∧ Off g x2) ∧ Duo wr B 24 x1 x2 ∧ Duo wr (B + 1) 24 (.slice none 0 0) (.slice none 0 0) ∧ Below B w wr) (fun i _ => ls.length - (intOf i).toNat)
  case atStart =>
    refine ⟨0, _, _, Nat.zero_le _, rfl, (H1.out.alloc _).alloc _, ?_, H1.out.off (by omega), H2.out.off (by omega), H1.out.off (by omega), H2.out.off (by omega), Lib.hid (fun _ _ h1 h2 => ⟨h1, h2⟩), dS0, dX0, bX0⟩
    simp only [List.take_zero, Wm.frames, List.append_nil]
    exact (H2.out.alloc _).alloc _
  case round =>
    obtain ⟨k, x1, x2, hk, rfl, r1, r2, f1, f2, f3, f4, fG, dS, dX, hb⟩ := hrel
    clear dS0 dX0 bX0
    have R1 := Lib.hid r1; have R2 := Lib.hid r2
    obtain ⟨b1, k1, rfl, -⟩ := r1
    obtain ⟨b2, k2, rfl, -⟩ := r2
    obtain ⟨C, hC⟩ : ∃ C, O ++ Wm.frames (ls.take k) = C := ⟨_, rfl⟩
    rw [hC] at R2 f2 f4 dS fG
    have HC := Lib.hid hC
    have hCn : C.length ≤ 30000 := by rw [← hC]; have := Wm.frames_take_le ls k; simp; omega
    clear hC
    by_cases hlt : k < ls.length
    · obtain ⟨bl, ol, rfl, hbl, hcl⟩ := HR.out (by rintro rfl; simp at hlt)
      have g := (hb.cell (p := ⟨bl, ol + k, none⟩) (show bl < B by omega)).trans (hcl k hlt)
      have rV := (HV.out k hlt).below (by rw [HB.out]; exact hb)
      have RVd : Hid (Row .u8 wr.drew (V k) (ls[k]?.getD [])) := Lib.hid rV
      have hq4 := HNl.out k hlt
      have HD := Wm.frames_snoc ls k hlt
      have hg : Wm.good (S ++ C) = (S ++ C).length := by
        rw [← HC.out, ← List.append_assoc]
        refine (Wm.good_frames (S ++ O) (ls.take k) HG.out fun i hi => ?_).2
        have hi' : i < k := by simp at hi; omega
        rw [List.getElem?_take_of_lt hi']
        exact HNl.out i (by omega)
      have Hg := Lib.hid hg
      obtain ⟨q, hq⟩ : ∃ q, ls[k]?.getD [] = q := ⟨_, rfl⟩
      rw [hq] at RVd hq4 rV HD
      obtain ⟨a', c', e', -⟩ := rV
      rw [e'] at g RVd
      have gd : Has wr.drew ⟨bl, ol + k, none⟩ (.slice a' q.length c') := ⟨show bl < wr.heap.size by have := dS.lt; omega, g⟩
      obtain ⟨D, hD⟩ : ∃ D, C ++ Wm.frame q = D := ⟨_, rfl⟩
      have hD' : O ++ Wm.frames (ls.take (k + 1)) = D := by rw [HD, ← List.append_assoc, HC.out, hD]
      have HD' := Lib.hid hD'
      have R1d : Hid (Row .u8 wr.drew (.slice b1 S.length k1) S) := Lib.hid R1.out
      have R2d : Hid (Row .u8 wr.drew (.slice b2 C.length k2) C) := Lib.hid R2.out
      have dSd : Duo wr.drew B 24 (.slice b1 S.length k1) (.slice b2 C.length k2) := dS
      have dXd : Duo wr.drew (B + 1) 24 (.slice none 0 0) (.slice none 0 0) := dX
      have hbd : Below B w wr.drew := hb.drew
      have Hbw := Lib.hid hb
      have lS := dS.lt
      have lX := dX.lt
      have s0 := dS.cell0
      have s1 := dS.cell1
      have hbl' : bl < B := by have := HB.out; omega
      have neE : ¬ B = wr.heap.size := by omega
      have neF : ¬ wr.heap.size = B := by omega
      have neG : ¬ bl = wr.heap.size := by omega
      have neH : ¬ wr.heap.size = bl := by omega
      clear hD' HD hcl hg hq dS dX hb R1 R2
      go_wp2_with fail
      go_region_held3 (fun w' => w'.cell? ⟨B, 0, none⟩ = some (.slice b1 S.length k1) ∧ w'.cell? ⟨B, 1, none⟩ = some (.slice b2 C.length k2) ∧ w'.cell? ⟨bl, ol + k, none⟩ = some (.slice a' q.length c'))
        (first | go_keep | (refine ⟨?_, ?_, ?_⟩ <;> assumption))
        (first
          | (go_at_call 13
             refine (Append_far _ _ _ S C q _ (by repeat (first | exact R1d.out | refine Row.alloc ?_ _)) (by repeat (first | exact R2d.out | refine Row.alloc ?_ _)) (by repeat (first | exact RVd.out | refine Row.alloc ?_ _)) n1 hCn hq4 Hg.out).mono ?_
             rintro e w2 ⟨x1, x2, rfl, r1, r2, p1, p2, hb2⟩
             rw [hD] at r2
             have st2 : Stp _ w2 := hb2
             have o1 := p1.off (g := B) (by simp <;> omega)
             have o2 := p2.off (g := B) (by simp <;> omega)
             have o3 := p1.off (g := B + 1) (by simp <;> omega)
             have o4 := p2.off (g := B + 1) (by simp <;> omega)
             obtain ⟨b3, k3, rfl⟩ := r1.shape S.length rfl
             obtain ⟨b4, k4, rfl⟩ := r2.shape D.length rfl
             have R3 := Lib.hid r1
             have R4 := Lib.hid r2
             have dS2 : Duo w2 B 24 (.slice b1 S.length k1) (.slice b2 C.length k2) := by repeat (first | exact dSd | refine Duo.alloc ?_ _ | refine Duo.stp ?_ (by assumption))
             have dX2 : Duo w2 (B + 1) 24 (.slice none 0 0) (.slice none 0 0) := by repeat (first | exact dXd | refine Duo.alloc ?_ _ | refine Duo.stp ?_ (by assumption))
             have g2 : Has w2 ⟨bl, ol + k, none⟩ (.slice a' q.length c') := by repeat (first | exact gd | refine Has.alloc ?_ _ | refine Has.stp ?_ (by assumption))
             have g2 := g2.2
             have s20 := dS2.cell0
             have s21 := dS2.cell1
             have s22 := dS2.free 0
             have s23 := dS2.free 1
             have sz2 := hb2.size
             have l2 := dX2.lt
             have l3 := dS2.lt
             (try simp at sz2)
             have bq : bl < B := hbl'
             have neA : ¬ B = w2.heap.size := by omega
             have neB : ¬ w2.heap.size = B := by omega
             have neC : ¬ bl = w2.heap.size := by omega
             have neD : ¬ w2.heap.size = bl := by omega
             clear hb2 r1 r2
             first | (have z2 : Duo w2 wr.heap.size 24 (.slice none 0 0) (.slice none 0 0) := ?_; rotate_left; (focus (refine Duo.stp ?_ (by assumption); (repeat (first | (refine Duo.new' _ _ _ _ _ ?_; focus (simp; done)) | refine Duo.alloc ?_ _ | refine Duo.stp ?_ (by assumption))); done)); have z20 := z2.cell0; have z21 := z2.cell1; have z22 := z2.free 0; have z23 := z2.free 1) | skip))
      all_goals
        have s24 := (dS2.alloc (.cells #[.slice b3 S.length k3, .slice b4 D.length k4] 24)).free 0
        have s25 := (dS2.alloc (.cells #[.slice b3 S.length k3, .slice b4 D.length k4] 24)).free 1
        have s26 := (((dS2.alloc (.cells #[.slice b3 S.length k3, .slice b4 D.length k4] 24)).set0 (.slice b3 S.length k3))).free 1
        go_wp2_with fail
        go_roundw
        case rel =>
          refine ⟨k + 1, .slice b3 S.length k3, .slice b4 D.length k4, by omega, by go_num, ?_, ?_, o1, o2, o3, o4, Lib.hid (fun g hg _ _ => ⟨p1.off (by simp <;> omega), p2.off (by simp <;> omega)⟩), ?_, ?_, ?_⟩
          · repeat (first | with_reducible exact R3.out | with_reducible refine Row.alloc ?_ _ | with_reducible refine Row.aside ?_ o1 _ | with_reducible refine Row.aside ?_ (p1.off (by simp <;> omega)) _)
          · rw [HD'.out]; repeat (first | with_reducible exact R4.out | with_reducible refine Row.alloc ?_ _ | with_reducible refine Row.aside ?_ o2 _ | with_reducible refine Row.aside ?_ (p2.off (by simp <;> omega)) _)
          · repeat (first | with_reducible exact dS2 | with_reducible refine Duo.alloc ?_ _ | with_reducible refine Duo.set1 (y := .slice b2 C.length k2) ?_ _ | with_reducible refine Duo.set0 (x := .slice b1 S.length k1) ?_ _ | with_reducible refine Duo.other ?_ (by simp <;> omega) _)
          · repeat (first | with_reducible exact dX2 | with_reducible refine Duo.alloc ?_ _ | with_reducible refine Duo.other ?_ (by simp <;> omega) _)
          · have hbw := Hbw.out
            rw [← HB.out] at hbd hbw ⊢
            repeat (first | with_reducible exact hbd | with_reducible exact hbw | with_reducible refine bel_drew ?_ | with_reducible refine bel_alloc ?_ _ | with_reducible refine bel_set ?_ (by simp <;> omega) _ | with_reducible refine bel_stp ?_ (by assumption))
        case measure => simp [intOf]; omega
    · obtain rfl : k = ls.length := by omega
      rw [List.take_length] at HC
      have s0 := dS.cell0
      have s1 := dS.cell1
      have x0 := dX.cell0
      have x1 := dX.cell1
      have x2 := dX.free 0
      have x3 := dX.free 1
      go_wp2_with fail
      have hz : Duo ((wr.setCell ⟨B + 1, 0, none⟩ (.slice b1 S.length k1)).setCell ⟨B + 1, 1, none⟩ (.slice b2 C.length k2)) (B + 1) 24 (.slice b1 S.length k1) (.slice b2 C.length k2) := (dX.set0 _).set1 _
      refine bodyPost_ret (results_cell_tmp rfl _ _ (B + 1) _ _ _ _ rfl hz rfl rfl rfl) rfl ⟨.slice b1 S.length k1, .slice b2 C.length k2, by simp, (R1.out.aside f3 _).aside f3 _, ?_, fun g hg => fG.out g (by have := HB.out; omega), ?_⟩
      · rw [HC.out]; exact (R2.out.aside f4 _).aside f4 _
      · rw [← HB.out] at hb ⊢
        exact bel_set (bel_set hb (by simp) _) (by simp) _
theorem put_ok (v1 v2 v : Value) (S O : List Int) (ls : List (List Int)) (w : World) (h1 : Row .u8 w v1 S) (h2 : Row .u8 w v2 O) (h : Rws .u8 w v ls)
    (n1 : S.length ≤ 30000) (n2 : O.length + (Wm.frames ls).length ≤ 30000) (nl : ∀ i, i < ls.length → (ls[i]?.getD []).length ≤ 4096) (n20 : ls.length ≤ 1000) (hg : Wm.good (S ++ O) = (S ++ O).length) :
    Calls Try.prog 28 #[.agg #[v1, v2], v] w fun e w' => ∃ x1 x2, e = .returned (.tuple #[.agg #[x1, x2], .bool true]) ∧ Row .u8 w' x1 S ∧ Row .u8 w' x2 (O ++ Wm.frames ls) ∧ Below w.heap.size w w' :=
  (put_far v1 v2 v S O ls w h1 h2 h n1 n2 nl n20 hg).mono fun _ _ ⟨x1, x2, e, r1, r2, _, hb⟩ => ⟨x1, x2, e, r1, r2, hb⟩
theorem Off.nil (g n c : Nat) : Off g (.slice none n c) := fun b o l c h => by cases h
theorem Row.drew {k : IntKind} {w : World} {v : Value} {l : List Int} (h : Row k w v l) : Row k w.drew v l := h
theorem Rws.drew {k : IntKind} {w : World} {v : Value} {l : List (List Int)} (h : Rws k w v l) : Rws k w.drew v l := h
theorem Duo.drew {W : World} {B : Nat} {t : TypeId} {x y : Value} (h : Duo W B t x y) : Duo W.drew B t x y := h
end Go.Proofs.Ytpemahllpbadcaa
