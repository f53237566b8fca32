/-
  The walk over greatsealref07.head. (Printed by wip/gen_head.py.)
-/
import Derived.Test.YtpmiihmhfagfoaaDoorR2
import Derived.Test.YtpmiihmhfagfoaaDoorEb
import Derived.Deep.CutBlock
import Derived.Deep.DeepCutAuto
namespace Go.Proofs.YtpmiihmhfagfoaaDoor
open Go.RowKit

/-- What stands ahead of the content: the tag, the length, and where the content begins. -/
def headR (l : List Int) (p : Nat) : Except Int (Int × Nat × Nat) :=
  match l.drop p with
  | [] => .error 70
  | t :: b1 => if Dm.known t = false then .error 71 else
    match Dm.lenR b1 with
    | .error e => .error e
    | .ok (n, long) => .ok (t, n, p + 1 + long)
def headV : Except Int (Int × Nat × Nat) → Value
  | .error e => .agg #[.int .i64 0, .int .i64 0, .int .i64 0, .int .i64 e]
  | .ok (t, n, a) => .agg #[.int .i64 t, .int .i64 n, .int .i64 a, .int .i64 0]
theorem head_ret {tmps : Array Value} {w : World} {x y z u : Value} (hp : tmps.getD 4 undef = .pointer (some ⟨w.heap.size, 0, none⟩)) :
    (results Tryd.f72 tmps).run Tryd.prog (w.alloc (.cells #[x, y, z, u] 85)) = .ok (.agg #[x, y, z, u]) (w.alloc (.cells #[x, y, z, u] 85)) :=
  results_cell1 (fn := Tryd.f72) (p := 4) (ty := 85) rfl _ _ w.heap.size _ _ _ _ hp (World.alloc_heap_new w _) Tryd.underlying85 rfl (by kernel_rfl)

set_option maxRecDepth 100000 in
set_option maxHeartbeats 8000000 in
theorem head_any (v : Value) (l : List Int) (p : Nat) (w : World) (h : Row .u8 w v l) (hl : l.length ≤ 1000000) (hpl : p ≤ l.length) :
    Calls Tryd.prog 72 #[v, .int .i64 p] w fun e w' => e = .returned (headV (headR l p)) ∧ Below w.heap.size w w' := by
  have hby := h.all_byte
  obtain ⟨a, c, rfl⟩ := h.shape l.length rfl
  have hbel := fun o => (Below.refl w.heap.size w).alloc (Nat.le_refl _) o
  have HB := Lib.hid hbel
  clear hbel
  have hdl : (l.drop p).length = l.length - p := List.length_drop
  have hat : ∀ j, l[p + j]?.getD 0 = (l.drop p)[j]?.getD 0 := fun j => by rw [List.getElem?_drop]
  have hR : headR l p = match l.drop p with
    | [] => .error 70
    | t :: b1 => if Dm.known t = false then .error 71 else
      match Dm.lenR b1 with
      | .error e => .error e
      | .ok (n, long) => .ok (t, n, p + 1 + long) := rfl
  have hbd : ∀ y ∈ l.drop p, byte y := fun y hy => hby y (List.mem_of_mem_drop hy)
  obtain ⟨R, hRe⟩ : ∃ R, headR l p = R := ⟨_, rfl⟩
  rw [hRe] at hR ⊢
  clear hRe hby
  obtain ⟨n, hn⟩ : ∃ n, l.length = n := ⟨_, rfl⟩
  rw [hn] at h hl hpl hdl ⊢
  have p0 : (0 : Int) ≤ (p : Int) := by omega
  have e1 : IntKind.i64.wrap ((p : Int) + 1) = (p : Int) + 1 := IntWalk.i64_in _ (by omega)
  have e2 : IntKind.i64.wrap ((p : Int) + 2) = (p : Int) + 2 := IntWalk.i64_in _ (by omega)
  have e3 : IntKind.i64.wrap ((p : Int) + 3) = (p : Int) + 3 := IntWalk.i64_in _ (by omega)
  have t0 : ((p : Int)).toNat = p := by omega
  have t1 : ((p : Int) + 1).toNat = p + 1 := by omega
  have t2 : ((p : Int) + 2).toNat = p + 2 := by omega
  have t3 : ((p : Int) + 3).toNat = p + 3 := by omega
  have s1 : (0 : Int) ≤ (p : Int) + 1 := by omega
  have s2 : (0 : Int) ≤ (p : Int) + 2 := by omega
  have s3 : (0 : Int) ≤ (p : Int) + 3 := by omega
  cases hd : l.drop p with
  | nil =>
    rw [hd] at hR hdl
    have g0 : (n : Int) ≤ (p : Int) := by simp at hdl; omega
    have HE := Lib.hid (show R = .error 70 from hR)
    clear hR h
    go_enter Tryd.func72, Tryd.ntmps72
    go_wp2_with fail
    exact bodyPost_ret (head_ret rfl) rfl ⟨by rw [HE.out]; rfl, HB.out _⟩
  | cons t b1 =>
    rw [hd] at hR hdl hat hbd
    have hb1 : b1.length + 1 = n - p := by simpa using hdl
    have g0 : ¬ (n : Int) ≤ (p : Int) := by omega
    have g0' : (p : Int) < (n : Int) := by omega
    obtain ⟨b, off, rfl, hlt, c0⟩ := h.cellAt p (by rw [hn]; omega)
    have a0 := hat 0
    rw [Nat.add_zero] at a0
    rw [a0] at c0
    simp only [List.getElem?_cons_zero, Option.getD_some] at c0
    have htb := hbd t (by simp)
    have e5 : IntKind.i64.wrap t = t := IntWalk.i64_in _ (by unfold byte at htb; omega)
    have hat1 : ∀ j, l[p + (j + 1)]?.getD 0 = b1[j]?.getD 0 := fun j => by rw [hat (j + 1)]; simp
    have HR := Lib.hid h; have HAT := Lib.hid hat1; have HBD := Lib.hid hbd; have HN := Lib.hid hn
    clear h hat a0 hat1 hd hdl hbd hn
    by_cases hk : Dm.known t = true
    case neg =>
      have hk0 : Dm.known t = false := by simpa using hk
      have HE := Lib.hid (show R = .error 71 by rw [hR]; simp only; rw [if_pos hk0])
      have hq : (t != 1) = true ∧ (t != 2) = true ∧ (t != 4) = true ∧ (t != 12) = true ∧ (t != 48) = true := by
        unfold Dm.known at hk0
        simp only [Bool.or_eq_false_iff, decide_eq_false_iff_not] at hk0
        simpa using ⟨hk0.1.1.1.1, hk0.1.1.1.2, hk0.1.1.2, hk0.1.2, hk0.2⟩
      obtain ⟨k1, k2, k3, k4, k5⟩ := hq
      clear hR hk hk0
      go_enter Tryd.func72, Tryd.ntmps72
      go_wp2_with fail
      exact bodyPost_ret (head_ret rfl) rfl ⟨by rw [HE.out]; rfl, HB.out _⟩
    have hR2 : R = match Dm.lenR b1 with | .error e => .error e | .ok (n, long) => .ok (t, n, p + 1 + long) := by rw [hR]; simp only; rw [if_neg (by rw [hk]; decide)]
    obtain ⟨i, hi, hti⟩ := (known_iff t).1 hk
    have HR2 := Lib.hid hR2
    clear hR hR2 hk
    have fin : ∀ (w0 : World), w0 = w → True := fun _ _ => trivial
    clear fin
    -- the tag is one of five
    have htag : t = 1 ∨ t = 2 ∨ t = 4 ∨ t = 12 ∨ t = 48 := by
      match i, hi with
      | 0, _ => exact .inl hti.symm
      | 1, _ => exact .inr (.inl hti.symm)
      | 2, _ => exact .inr (.inr (.inl hti.symm))
      | 3, _ => exact .inr (.inr (.inr (.inl hti.symm)))
      | 4, _ => exact .inr (.inr (.inr (.inr hti.symm)))
    clear hti hi
    go_enter Tryd.func72, Tryd.ntmps72
    go_upto_region 4 with fail
    go_cut [35] from 18 to 35 (fun c wx => c = .bool false ∧ wx = w.alloc (.cells #[.int .i64 0, .int .i64 0, .int .i64 0, .int .i64 0] 85))
    case first =>
      rcases htag with rfl | rfl | rfl | rfl | rfl
      all_goals
        go_wp2_with fail
        go_meet
        case rel => exact ⟨rfl, rfl⟩
    case rest =>
    obtain ⟨rfl, rfl⟩ := hcut
    clear htag
    cases b1 with
    | nil =>
      have g1 : (n : Int) ≤ (p : Int) + 1 := by simp at hb1; omega
      have HV := Lib.hid (show headV R = .agg #[.int .i64 0, .int .i64 0, .int .i64 0, .int .i64 70] by rw [HR2.out]; rfl)
      clear hb1 HR2 HAT HBD
      go_wp2_with fail
      exact bodyPost_ret (head_ret rfl) rfl ⟨by rw [HV.out], HB.out _⟩
    | cons f r =>
      have hr1 : r.length + 2 = n - p := by simp at hb1; omega
      have g1 : ¬ (n : Int) ≤ (p : Int) + 1 := by omega
      have g1' : (p : Int) + 1 < (n : Int) := by omega
      obtain ⟨_, _, e', -, c1⟩ := HR.out.cellAt (p + 1) (by rw [HN.out]; omega)
      cases e'
      have a1 := HAT.out 0
      rw [Nat.zero_add] at a1
      rw [a1] at c1
      simp only [List.getElem?_cons_zero, Option.getD_some] at c1
      have hfb := HBD.out f (by simp)
      unfold byte at hfb
      have e6 : IntKind.i64.wrap f = f := IntWalk.i64_in _ (by omega)
      have hLC := Dm.lenR_cons f r
      have HLC := Lib.hid hLC
      clear hLC a1 hb1
      by_cases hf1 : f < 128
      · have HV := Lib.hid (show headV R = .agg #[.int .i64 t, .int .i64 f, .int .i64 ((p : Int) + 2), .int .i64 0] by
          rw [HR2.out, HLC.out, if_pos hf1]
          show Value.agg #[.int .i64 t, .int .i64 ((f.toNat : Nat) : Int), .int .i64 ((p + 1 + 1 : Nat) : Int), .int .i64 0] = _
          rw [Int.toNat_of_nonneg hfb.1, show ((p + 1 + 1 : Nat) : Int) = (p : Int) + 2 by omega])
        clear HR2 HAT HBD HLC
        go_wp2_with fail
        exact bodyPost_ret (head_ret rfl) rfl ⟨by rw [HV.out], HB.out _⟩
      have hL2 := HLC.out
      rw [if_neg hf1] at hL2
      have e7 : IntKind.i64.wrap ((p : Int) + 2 + f) = (p : Int) + 2 + f := IntWalk.i64_in _ (by omega)
      by_cases hf2 : f = 129
      · rw [if_pos hf2] at hL2
        have m1 : (f != 129) = false := by simp [hf2]
        have m2 : (f == 130) = false := by rw [hf2]; decide
        have m3 : (f == 129) = true := by simp [hf2]
        obtain ⟨A, hA⟩ : ∃ A : Nat, p + 1 + 2 = A := ⟨_, rfl⟩
        have e8 : IntKind.i64.wrap ((p : Int) + 2 + f - 128) = (A : Int) := (IntWalk.i64_in _ (by omega)).trans (by omega)
        cases r with
        | nil =>
          have g2 : (n : Int) < (A : Int) := by simp at hr1; omega
          have HV := Lib.hid (show headV R = .agg #[.int .i64 0, .int .i64 0, .int .i64 0, .int .i64 70] by rw [HR2.out, hL2]; rfl)
          clear HR2 HAT HBD HLC hL2 hA hf2
          go_wp2_with fail
          exact bodyPost_ret (head_ret rfl) rfl ⟨by rw [HV.out], HB.out _⟩
        | cons x r2 =>
          have g2 : ¬ (n : Int) < (A : Int) := by simp at hr1; omega
          have g2' : (p : Int) + 2 < (n : Int) := by simp at hr1; omega
          obtain ⟨_, _, e', -, c2⟩ := HR.out.cellAt (p + 2) (by rw [HN.out]; omega)
          cases e'
          have a2 := HAT.out 1
          rw [show p + (1 + 1) = p + 2 by omega] at a2
          rw [a2] at c2
          simp only [List.getElem?_cons_zero, List.getElem?_cons_succ, Option.getD_some] at c2
          have hxb := HBD.out x (by simp)
          unfold byte at hxb
          have e9 : IntKind.i64.wrap x = x := IntWalk.i64_in _ (by omega)
          simp only at hL2
          by_cases hx : x < 128
          · rw [if_pos hx] at hL2
            have HV := Lib.hid (show headV R = .agg #[.int .i64 0, .int .i64 0, .int .i64 0, .int .i64 71] by rw [HR2.out, hL2]; rfl)
            clear HR2 HAT HBD HLC hL2 hA hf2 a2 hr1
            go_wp2_with fail
            exact bodyPost_ret (head_ret rfl) rfl ⟨by rw [HV.out], HB.out _⟩
          · rw [if_neg hx] at hL2
            have HV := Lib.hid (show headV R = .agg #[.int .i64 t, .int .i64 x, .int .i64 (A : Int), .int .i64 0] by
              rw [HR2.out, hL2]
              show Value.agg #[.int .i64 t, .int .i64 ((x.toNat : Nat) : Int), .int .i64 ((p + 1 + 2 : Nat) : Int), .int .i64 0] = _
              rw [Int.toNat_of_nonneg hxb.1, hA])
            clear HR2 HAT HBD HLC hL2 hA hf2 a2 hr1
            go_upto_region 20 with fail
            clear m1 m2 m3 hx g2 g2' g1 g1' g0 g0' c0 c1 c2 e9 e6 e5 e1 e3 t0 t1 t2 t3 s1 s2 s3 hf1 HR HN hfb hxb htb p0 hl hpl hlt
            go_wp2_with fail
            exact bodyPost_ret (head_ret rfl) rfl ⟨by rw [HV.out], HB.out _⟩
      rw [if_neg hf2] at hL2
      have m1 : (f != 129) = true := by simpa using hf2
      have m3 : (f == 129) = false := by simpa using hf2
      by_cases hf3 : f = 130
      · rw [if_pos hf3] at hL2
        have m4 : (f != 130) = false := by simp [hf3]
        have m2 : (f == 130) = true := by simp [hf3]
        obtain ⟨A, hA⟩ : ∃ A : Nat, p + 1 + 3 = A := ⟨_, rfl⟩
        have e8 : IntKind.i64.wrap ((p : Int) + 2 + f - 128) = (A : Int) := (IntWalk.i64_in _ (by omega)).trans (by omega)
        match r, hr1, HAT, HBD, HR2, hL2 with
        | [], hr1, HAT, HBD, HR2, hL2 =>
          have g2 : (n : Int) < (A : Int) := by simp at hr1; omega
          have HV := Lib.hid (show headV R = .agg #[.int .i64 0, .int .i64 0, .int .i64 0, .int .i64 70] by rw [HR2.out, hL2]; rfl)
          clear HR2 HAT HBD HLC hL2 hA hf3
          go_wp2_with fail
          exact bodyPost_ret (head_ret rfl) rfl ⟨by rw [HV.out], HB.out _⟩
        | [x], hr1, HAT, HBD, HR2, hL2 =>
          have g2 : (n : Int) < (A : Int) := by simp at hr1; omega
          have HV := Lib.hid (show headV R = .agg #[.int .i64 0, .int .i64 0, .int .i64 0, .int .i64 70] by rw [HR2.out, hL2]; rfl)
          clear HR2 HAT HBD HLC hL2 hA hf3
          go_wp2_with fail
          exact bodyPost_ret (head_ret rfl) rfl ⟨by rw [HV.out], HB.out _⟩
        | x :: y :: r2, hr1, HAT, HBD, HR2, hL2 =>
          have g2 : ¬ (n : Int) < (A : Int) := by simp at hr1; omega
          have g2' : (p : Int) + 2 < (n : Int) := by simp at hr1; omega
          have g3' : (p : Int) + 3 < (n : Int) := by simp at hr1; omega
          obtain ⟨_, _, e', -, c2⟩ := HR.out.cellAt (p + 2) (by rw [HN.out]; omega)
          cases e'
          have a2 := HAT.out 1
          rw [show p + (1 + 1) = p + 2 by omega] at a2
          rw [a2] at c2
          simp only [List.getElem?_cons_zero, List.getElem?_cons_succ, Option.getD_some] at c2
          obtain ⟨_, _, e', -, c3⟩ := HR.out.cellAt (p + 3) (by rw [HN.out]; omega)
          cases e'
          have a3 := HAT.out 2
          rw [show p + (2 + 1) = p + 3 by omega] at a3
          rw [a3] at c3
          simp only [List.getElem?_cons_zero, List.getElem?_cons_succ, Option.getD_some] at c3
          have hxb := HBD.out x (by simp)
          have hyb := HBD.out y (by simp)
          unfold byte at hxb hyb
          have e9 : IntKind.i64.wrap x = x := IntWalk.i64_in _ (by omega)
          have e10 : IntKind.i64.wrap y = y := IntWalk.i64_in _ (by omega)
          have e11 : IntKind.i64.wrap (256 * x) = 256 * x := IntWalk.i64_in _ (by omega)
          have e12 : IntKind.i64.wrap (256 * x + y) = 256 * x + y := IntWalk.i64_in _ (by omega)
          simp only at hL2
          by_cases hx : 256 * x + y < 256
          · rw [if_pos hx] at hL2
            have HV := Lib.hid (show headV R = .agg #[.int .i64 0, .int .i64 0, .int .i64 0, .int .i64 71] by rw [HR2.out, hL2]; rfl)
            clear HR2 HAT HBD HLC hL2 hA hf3 a2 a3 hr1
            go_wp2_with fail
            exact bodyPost_ret (head_ret rfl) rfl ⟨by rw [HV.out], HB.out _⟩
          · rw [if_neg hx] at hL2
            have HV := Lib.hid (show headV R = .agg #[.int .i64 t, .int .i64 (256 * x + y), .int .i64 (A : Int), .int .i64 0] by
              rw [HR2.out, hL2]
              show Value.agg #[.int .i64 t, .int .i64 (((256 * x + y).toNat : Nat) : Int), .int .i64 ((p + 1 + 3 : Nat) : Int), .int .i64 0] = _
              rw [Int.toNat_of_nonneg (by omega), hA])
            clear HR2 HAT HBD HLC hL2 hA hf3 a2 a3 hr1
            go_upto_region 20 with fail
            clear m1 m2 m4 hx g2 g2' g1 g1' g0 g0' c0 c1 c2 c3 g3' e9 e10 e11 e12 e6 e5 e1 e3 t0 t1 t2 t3 s1 s2 s3 hf1 HR HN hfb hxb hyb htb p0 hl hpl hlt
            go_wp2_with fail
            exact bodyPost_ret (head_ret rfl) rfl ⟨by rw [HV.out], HB.out _⟩
      rw [if_neg hf3] at hL2
      have m4 : (f != 130) = true := by simpa using hf3
      have HV := Lib.hid (show headV R = .agg #[.int .i64 0, .int .i64 0, .int .i64 0, .int .i64 71] by rw [HR2.out, hL2]; rfl)
      clear HR2 HAT HBD HLC hL2
      go_wp2_with fail
      exact bodyPost_ret (head_ret rfl) rfl ⟨by rw [HV.out], HB.out _⟩
end Go.Proofs.YtpmiihmhfagfoaaDoor
