/-
  The walk over der.get. (Printed by wip/gen_get.py.)
-/
import Derived.Test.YtfdchdnkblmijaaGreatDoorDf
import Derived.Test.YtfdchdnkblmijaaGreatDoorDk
namespace Go.Proofs.YtfdchdnkblmijaaGreatDoor
open Go.RowKit

theorem results_cell_tmp2 {P : Program} {fn : Func} {p t u : Tmp} {ty : TypeId} (h : fn.results = #[.cell p ty, .tmp t, .tmp u]) (tmps : Array Value) (w : World) (g : Nat) (t' : TypeId) (cs : Array Value) (fr : Nat × Nat) (d : TypeDesc)
    (hp : tmps.getD p undef = .pointer (some ⟨g, 0, none⟩)) (hg : w.heap[g]? = some (.cells cs t' fr))
    (hu : P.underlying ty = some d) (hd : (match d with | .struct _ | .array _ _ => true | _ => false) = true) (hi : (P.info? ty).map (·.size) = some cs.size) :
    (results fn tmps).run P w = .ok (.tuple #[.agg cs, tmps.getD t undef, tmps.getD u undef]) w := by
  have hp' : tmps[p]?.getD undef = .pointer (some ⟨g, 0, none⟩) := by simpa using hp
  simp [results, h, hp', asAddr, run_loadVar_row w g t' ty cs fr d hg hu hd hi]
theorem item_ret {tmps : Array Value} {W : World} {g : Nat} {fn : Func} {p q r : Tmp} (hr : fn.results = #[.cell p 45, .tmp q, .tmp r]) (hp : tmps.getD p undef = .pointer (some ⟨g, 0, none⟩)) {x y z : Value} (hd : Trip W g 45 x y z) :
    (results fn tmps).run Tryz.prog W = .ok (.tuple #[.agg #[x, y, z], tmps.getD q undef, tmps.getD r undef]) W :=
  results_cell_tmp2 hr _ _ g _ _ _ _ hp hd Tryz.underlying45 rfl (by kernel_rfl)
abbrev noV : Value := .agg #[.int .i64 0, .slice none 0 0, .slice none 0 0]
/-- What get hands back. -/
def Gotten (n : Nat) (v : Value) (inn : List Int) (w' : World) (e : Ending) : Except Int (Dm.It × List Int) → Prop
  | .error c => e = .returned (.tuple #[noV, .slice none 0 0, .int .i64 c])
  | .ok (x, r) => ∃ ab cb al cl a c, e = .returned (.tuple #[.agg #[.int .i64 x.tag, .slice ab x.b.length cb, .slice al x.l.length cl], .slice a r.length c, .int .i64 0]) ∧
      Own n none w' (.slice ab x.b.length cb) (.slice al x.l.length cl) x ∧ ∀ V, Row .u8 V v inn → Row .u8 V (.slice a r.length c) r
def GetOn (d : Nat) : Prop := ∀ (v : Value) (l : List Int) (w : World), KindsAt w → Row .u8 w v l → l.length ≤ 1000000 →
  Calls Tryz.prog 87 #[v, .int .i64 d] w fun e w' => Gotten w.heap.size v l w' e (Dm.get d l) ∧ Below w.heap.size w w'
theorem zero3 {W : World} {B : Nat} {t : TypeId} {x y z : Value} (h : Trip W B t x y z) (a b c : Value) : Trip (((W.setCell ⟨B, 0, none⟩ a).setCell ⟨B, 1, none⟩ b).setCell ⟨B, 2, none⟩ c) B t a b c := ((h.set0 a).set1 b).set2 c
theorem below3 {n : Nat} {w W : World} (h : Below n w W) {B : Nat} (hB : n ≤ B) (a b c : Value) : Below n w (((W.setCell ⟨B, 0, none⟩ a).setCell ⟨B, 1, none⟩ b).setCell ⟨B, 2, none⟩ c) := ((h.setCell hB a).setCell hB b).setCell hB c
theorem Row.cutif' {k : IntKind} {w : World} {a : Option Addr} {n cap : Nat} {l : List Int} (h : Row k w (.slice a n cap) l) (m : Nat) (hm : m ≤ l.length) : Row k w (.slice (if cap = m then a else Option.map (fun x => x.add m) a) (n - m) (cap - m)) (l.drop m) := by
  have h' := h
  obtain ⟨a', c', e, hl, -⟩ := h'
  cases e
  by_cases q : cap = m
  · rw [if_pos q, show cap - m = 0 by omega]
    exact h.cut_all m hm (by omega)
  · rw [if_neg q]; exact h.cut m hm (by omega)
def subGet : Nat → List Int → Except Int (Dm.It × List Int)
  | 0 => fun _ => .error 71
  | d + 1 => Dm.get d
/-- What stands behind a tag that is known. -/
def getOk (f : List Int → Except Int (Dm.It × List Int)) (t : Int) (b1 : List Int) (n long : Nat) : Except Int (Dm.It × List Int) :=
  if 8192 < 1 + long + n then .error 71 else
  if b1.length - long < n then .error 70 else
  if t = 48 then
    match Dm.many f ((b1.drop long).take n).length ((b1.drop long).take n) with
    | none => .error 71
    | some l => .ok (.mk t [] l, (b1.drop long).drop n)
  else if Dm.mayB t ((b1.drop long).take n) then .ok (.mk t ((b1.drop long).take n) [], (b1.drop long).drop n) else .error 71
theorem row_len {k : IntKind} {w : World} {a : Option Addr} {n n' c : Nat} {l : List Int} (e : n = n') (h : Row k w (.slice a n c) l) : Row k w (.slice a n' c) l := e ▸ h
theorem get_d (d : Nat) (l : List Int) : Dm.get d l = Dm.getW (subGet d) (decide (1 ≤ d)) l := by
  cases d <;> rfl
theorem get_err {d : Nat} {t : Int} {b1 : List Int} {e : Int} (hk : Dm.known t = true) (hd : 1 ≤ d) (h : Dm.lenR b1 = .error e) : Dm.get d (t :: b1) = .error e := by
  rw [get_d, Dm.getW_cons, hk, decide_eq_true hd, if_neg (by decide), h]
theorem get_ok {d : Nat} {t : Int} {b1 : List Int} {n k : Nat} (hk : Dm.known t = true) (hd : 1 ≤ d) (h : Dm.lenR b1 = .ok (n, k)) : Dm.get d (t :: b1) = getOk (subGet d) t b1 n k := by
  rw [get_d, Dm.getW_cons, hk, decide_eq_true hd, if_neg (by decide), h]; rfl
theorem lenR_err {b : List Int} {e : Int} (h : Dm.lenR b = .error e) : e = 70 ∨ e = 71 := by
  match b, h with
  | [], h => injection h with h; exact .inl h.symm
  | f :: r, h =>
    rw [Dm.lenR_cons] at h
    split at h
    · cases h
    · split at h
      · split at h
        · injection h with h; exact .inl h.symm
        · split at h
          · injection h with h; exact .inr h.symm
          · cases h
      · split at h
        · split at h
          · split at h
            · injection h with h; exact .inr h.symm
            · cases h
          · injection h with h; exact .inl h.symm
        · injection h with h; exact .inr h.symm
theorem get_fail {d : Nat} {b : List Int} {e : Int} (h : Dm.get d b = .error e) : e = 70 ∨ e = 71 := by
  cases b with
  | nil => cases d <;> (cases h; exact .inl rfl)
  | cons t b1 =>
    rw [get_d, Dm.getW_cons] at h
    split at h
    · cases h; exact .inr rfl
    · split at h
      · next e' he => cases h; exact lenR_err he
      · split at h
        · cases h; exact .inr rfl
        · split at h
          · cases h; exact .inl rfl
          · split at h
            · split at h
              · cases h; exact .inr rfl
              · cases h
            · split at h
              · cases h
              · cases h; exact .inr rfl
theorem owns_keep {w V : World} {base n size : Nat} {e : TypeId} {v : Value} {xs : List Value} (h : w.ownsRow base e size v n xs) (hb : Below w.heap.size w V) : V.ownsRow base e size v n xs := ⟨h.1, h.2.imp_right (by
  rintro ⟨g, cap, cur, e, h1, h2, r⟩
  exact ⟨g, cap, cur, e, h1, (hb.block g (Array.getElem?_eq_some_iff.1 h2).1).trans h2, r⟩)⟩
theorem info_item : (Tryz.prog.info? 45).map (fun i => (i.zero, i.size, i.bytes)) = some (some (.agg #[.int .i64 0, .slice none 0 0, .slice none 0 0]), 3, 56) := by kernel_rfl
theorem cells_new3 (w : World) (x y z : Value) (t : TypeId) : ∀ j u, [x, y, z][j]? = some u → (w.alloc (.cells #[x, y, z] t)).cell? ((⟨w.heap.size, 0, none⟩ : Addr).add j) = some u := by
  intro j u hj
  match j, hj with
  | 0, hj => simp at hj; subst hj; simp [Addr.add]
  | 1, hj => simp at hj; subst hj; simp [Addr.add]
  | 2, hj => simp at hj; subst hj; simp [Addr.add]
theorem lenR_lt {b : List Int} {n k : Nat} (hb : ∀ y ∈ b, byte y) (h : Dm.lenR b = .ok (n, k)) : 1 ≤ k ∧ k ≤ 3 ∧ k ≤ b.length ∧ n < 65536 := by
  obtain ⟨r, rfl, rfl, hn⟩ := Dm.lenR_only (fun y hy => by have := hb y hy; unfold byte at this; exact ⟨this.1, by omega⟩) h
  have := Dm.lenB_length n
  refine ⟨?_, ?_, by simp, hn⟩ <;> (rw [this]; split <;> (try split) <;> omega)

set_option maxRecDepth 100000 in
set_option maxHeartbeats 8000000 in
theorem get_of (d : Nat) (hd : d ≤ 8) (ih : ∀ d', d' + 1 = d → GetOn d') : GetOn d := by
  intro v l w hk h hl
  have hby := h.all_byte
  obtain ⟨a, c, rfl⟩ := h.shape l.length rfl
  have hlc : l.length ≤ c := by obtain ⟨_, _, e', hc, _⟩ := h; cases e'; exact hc
  obtain ⟨R, hR⟩ : ∃ R, Dm.get d l = R := ⟨_, rfl⟩
  rw [hR]
  obtain ⟨B, hB⟩ : ∃ B, w.heap.size = B := ⟨_, rfl⟩
  rw [hB]
  have q0 := Trip.new w 45 (.int .i64 0) (.slice none 0 0) (.slice none 0 0)
  have hb0 := (Below.refl w.heap.size w).alloc (Nat.le_refl _) (.cells #[.int .i64 0, .slice none 0 0, .slice none 0 0] 45)
  obtain ⟨W, hW⟩ : ∃ W, w.alloc (.cells #[.int .i64 0, .slice none 0 0, .slice none 0 0] 45) = W := ⟨_, rfl⟩
  rw [hW] at q0 hb0
  have k0 := hk.below hb0; have r0 := h.below hb0
  rw [hB] at q0 hb0
  have hWB : B < W.heap.size := q0.lt
  have HR := Lib.hid hR; have HW := Lib.hid hW; have HB := Lib.hid hB; have HK := Lib.hid k0; have RW := Lib.hid r0; have HBy := Lib.hid hby
  have wB : B ≤ B := Nat.le_refl _
  have WB := Lib.hid wB
  have hlow : ∀ b o n c', (Value.slice a l.length c) = .slice (some ⟨b, o, none⟩) n c' → 0 < l.length → b < B := fun b o n c' e hn => by
    obtain ⟨_, _, e', _, _, _, _, h5⟩ := h
    rw [e] at e'
    cases e'
    obtain ⟨b2, o2, e2, hb2, _⟩ := h5 (by rintro rfl; simp at hn)
    cases e2
    omega
  have HLow := Lib.hid hlow; have HH := Lib.hid h; have HK0 := Lib.hid hk
  clear hk h hR hW hB wB hby hlow
  cases l with
  | nil =>
    have hr : R = .error 70 := by rw [← HR.out, get_d]; rfl
    have HE := Lib.hid hr
    clear hr k0 r0
    go_enter Tryz.func87, Tryz.ntmps87
    go_wp2_with fail
    rw [HW.out]
    (try rw [HB.out])
    (try go_wp2_with fail)
    refine bodyPost_ret (item_ret rfl rfl q0) rfl ?_
    exact ⟨by rw [HE.out]; rfl, hb0⟩
  | cons t b1 =>
    obtain ⟨b, off, rfl, hlt, ct⟩ := HH.out.cellAt 0 (by simp)
    have hltn : ¬ b = w.heap.size := by omega
    have htb := HBy.out t (by simp)
    unfold byte at htb
    have ewt : IntKind.i64.wrap t = t := IntWalk.i64_in _ (by omega)
    simp only [List.getElem?_cons_zero, Option.getD_some, Nat.add_zero] at ct
    obtain ⟨n, hn⟩ : ∃ n, (t :: b1).length = n := ⟨_, rfl⟩
    have hbn : b1.length + 1 = n := by simpa using hn
    rw [hn] at hl hlc RW ⊢
    have n0 : ¬ n = 0 := by omega
    have n1 : 0 < n := by omega
    have HBN := Lib.hid hbn
    have hbB : b < B := HLow.out b off _ _ rfl (by simp)
    have hF := find_any t W k0
    have ltq := q0.lt
    have nbB : ¬ b = B := by omega
    obtain ⟨n', hn'⟩ : ∃ n', d = n' := ⟨_, rfl⟩
    clear hn'
    have RB1 : Hid (∀ V, Below W.heap.size W V → Row .u8 V (.slice (some ⟨b, off, none⟩) n c) (t :: b1)) := Lib.hid (fun V hV => by have := RW.out.below hV; exact this)
    go_enter Tryz.func87, Tryz.ntmps87
    go_wp2_with fail
    rw [HW.out]
    (try rw [HB.out])
    (try go_wp2_with fail)
    refine hF.mono ?_; rintro e w1 ⟨hr, hb⟩
    have hB1 := hb0.trans (hb.mono (Nat.le_of_lt hWB))
    have q1 := trip_stp q0 hb
    have K1 := Lib.hid (HK.out.below hb); have R1 := Lib.hid (RB1.out w1 hb)
    have hB1s := hB1.size
    have lt1 := q1.lt
    clear hF hb q0 ct hlt hltn
    rcases hr with ⟨hkn, rfl⟩ | ⟨i, hi, hti, rfl⟩
    · have hr : R = .error 71 := by rw [← HR.out, get_d, Dm.getW_cons, hkn]; exact if_pos rfl
      have HE := Lib.hid hr
      have nz : ¬ B = w1.heap.size := by omega
      clear hkn hr
      have f0 := q1.free 0; have f1 := q1.free 1; have f2 := q1.free 2; have x0 := q1.cell0; have x1 := q1.cell1; have x2 := q1.cell2; have xl := q1.lt
      go_wp2_with fail
      have hzz := (zero3 q1 (.int .i64 0) (.slice none 0 0) (.slice none 0 0)).alloc (.cells #[.int .i64 0, .nilFunc] 109)
      have hbz := (below3 hB1 WB.out (.int .i64 0) (.slice none 0 0) (.slice none 0 0)).alloc (by simp; omega) (.cells #[.int .i64 0, .nilFunc] 109)
      refine bodyPost_ret (item_ret rfl rfl hzz) rfl ?_
      exact ⟨by rw [HE.out]; rfl, hbz⟩
    have hkn : Dm.known t = true := (known_iff t).2 ⟨i, hi, hti⟩
    have h5 : kFn i = 144 ∨ kFn i = 52 ∨ kFn i = 145 ∨ kFn i = 146 ∨ kFn i = 149 := by
      match i, hi with
      | 0, _ => exact .inl rfl
      | 1, _ => exact .inr (.inl rfl)
      | 2, _ => exact .inr (.inr (.inl rfl))
      | 3, _ => exact .inr (.inr (.inr (.inl rfl)))
      | 4, _ => exact .inr (.inr (.inr (.inr rfl)))
    have hKF : ∀ (v : Value) (l : List Int) (V : World), Row .u8 V v l → l.length ≤ 1000000 → Calls Tryz.prog (kFn i) #[v] V fun e w' => e = .returned (.bool (Dm.mayB t l)) ∧ V = w' := fun v l V hr hl => by
      have := kFn_any i hi v l V hr (by omega)
      rw [hti] at this; exact this
    have HKF := Lib.hid hKF; have H5 := Lib.hid h5; have Hkn := Lib.hid hkn
    clear hKF h5 hkn hti
    obtain ⟨f, hf⟩ : ∃ f, kFn i = f := ⟨_, rfl⟩
    rw [hf]
    have HF5 := Lib.hid hf
    clear hf hi
    have lt2 : w1.heap.size < w1.heap.size + 1 := by omega
    have nBk : ¬ B = w1.heap.size := by omega
    by_cases hd1 : 1 ≤ d
    case neg =>
      obtain rfl : d = 0 := by omega
      have hr : R = .error 71 := by rw [← HR.out, get_d, Dm.getW_cons, Hkn.out]; exact if_pos rfl
      have HE := Lib.hid hr
      clear hr
      have f0 := q1.free 0; have f1 := q1.free 1; have f2 := q1.free 2; have x0 := q1.cell0; have x1 := q1.cell1; have x2 := q1.cell2; have xl := q1.lt
      go_wp2_with fail
      have hzz := (zero3 q1 (.int .i64 0) (.slice none 0 0) (.slice none 0 0)).alloc (.cells #[.int .i64 t, .func (.func f) #[] #[]] 109)
      have hbz := (below3 hB1 WB.out (.int .i64 0) (.slice none 0 0) (.slice none 0 0)).alloc (by simp; omega) (.cells #[.int .i64 t, .func (.func f) #[] #[]] 109)
      refine bodyPost_ret (item_ret rfl rfl hzz) rfl ?_
      exact ⟨by rw [HE.out]; rfl, hbz⟩
    have hd2 : ¬ (d : Int) < 1 := by omega
    have hd3 : ¬ d = 0 := by omega
    by_cases hc1 : c = 1
    case pos =>
      obtain rfl : n = 1 := by omega
      have hb1 : b1 = [] := List.eq_nil_of_length_eq_zero (by have := HBN.out; omega)
      have hr : R = .error 70 := by rw [← HR.out]; exact get_err Hkn.out hd1 (by rw [hb1]; rfl)
      have HE := Lib.hid hr
      subst hc1
      have hC := length_any (.slice (some ⟨b, off, none⟩) 0 0) [] (w1.alloc (.cells #[.int .i64 t, .func (.func f) #[] #[]] 109)) (Row.empty _ _ _ _ (by unfold maxLen; omega) (fun _ => rfl)) (by simp)
      have hlo : lenOut (Dm.lenR []) = .tuple #[.int .i64 0, .int .i64 0, .int .i64 70] := rfl
      rw [hlo] at hC
      clear hr hb1 hlo
      go_wp2_with fail
      refine hC.mono ?_; rintro e w' ⟨rfl, rfl⟩
      clear hC
      have f0 := q1.free 0; have f1 := q1.free 1; have f2 := q1.free 2; have x0 := q1.cell0; have x1 := q1.cell1; have x2 := q1.cell2; have xl := q1.lt
      go_wp2_with fail
      have hzz := (zero3 q1 (.int .i64 0) (.slice none 0 0) (.slice none 0 0)).alloc (.cells #[.int .i64 t, .func (.func f) #[] #[]] 109)
      have hbz := (below3 hB1 WB.out (.int .i64 0) (.slice none 0 0) (.slice none 0 0)).alloc (by simp; omega) (.cells #[.int .i64 t, .func (.func f) #[] #[]] 109)
      refine bodyPost_ret (item_ret rfl rfl hzz) rfl ?_
      exact ⟨by rw [HE.out]; rfl, hbz⟩
    have hcc : 1 < c := by omega
    have r2 : Row .u8 (w1.alloc (.cells #[.int .i64 t, .func (.func f) #[] #[]] 109)) (.slice (some ⟨b, off + 1, none⟩) (n - 1) (c - 1)) b1 := by
      have := Row.cut (R1.out.alloc (.cells #[.int .i64 t, .func (.func f) #[] #[]] 109)) 1 (by simp) (by omega)
      simpa [addr_add] using this
    have hb1l : b1.length = n - 1 := by have := HBN.out; omega
    have hC := length_any _ b1 _ r2 (by omega)
    have R2 := Lib.hid r2; have HB1L := Lib.hid hb1l
    have hby1 : ∀ y ∈ b1, byte y := fun y hy => HBy.out y (List.mem_cons_of_mem _ hy)
    have HBy1 := Lib.hid hby1
    clear r2 hb1l hby1
    match hLR : Dm.lenR b1 with
    | .error e =>
      have hE' := get_err Hkn.out hd1 hLR
      rw [hLR] at hC
      rcases lenR_err hLR with rfl | rfl
      all_goals
        have hr := hE'
        rw [HR.out] at hr
        have HE := Lib.hid hr
        clear hr hE' hLR
        have hlo : ∀ e, lenOut (.error e) = .tuple #[.int .i64 0, .int .i64 0, .int .i64 e] := fun _ => rfl
        rw [hlo] at hC
        clear hlo
        go_wp2_with fail
        refine hC.mono ?_; rintro e w' ⟨rfl, rfl⟩
        clear hC
        have f0 := q1.free 0; have f1 := q1.free 1; have f2 := q1.free 2; have x0 := q1.cell0; have x1 := q1.cell1; have x2 := q1.cell2; have xl := q1.lt
        go_wp2_with fail
        have hzz := (zero3 q1 (.int .i64 0) (.slice none 0 0) (.slice none 0 0)).alloc (.cells #[.int .i64 t, .func (.func f) #[] #[]] 109)
        have hbz := (below3 hB1 WB.out (.int .i64 0) (.slice none 0 0) (.slice none 0 0)).alloc (by simp; omega) (.cells #[.int .i64 t, .func (.func f) #[] #[]] 109)
        refine bodyPost_ret (item_ret rfl rfl hzz) rfl ?_
        exact ⟨by rw [HE.out]; rfl, hbz⟩
    | .ok (m, k) =>
      have hG := get_ok Hkn.out hd1 hLR
      rw [HR.out] at hG
      obtain ⟨k1, k3, kl, m6⟩ := lenR_lt HBy1.out hLR
      rw [HB1L.out] at kl
      rw [hLR] at hC
      have hlo : lenOut (.ok (m, k)) = .tuple #[.int .i64 m, .int .i64 k, .int .i64 0] := rfl
      rw [hlo] at hC
      have HGG := Lib.hid hG
      have w1k : IntKind.i64.wrap (1 + (k : Int)) = 1 + (k : Int) := IntWalk.i64_in _ (by omega)
      have w1m : IntKind.i64.wrap (1 + (k : Int) + (m : Int)) = 1 + (k : Int) + (m : Int) := IntWalk.i64_in _ (by omega)
      have tk : (1 + (k : Int)).toNat = 1 + k := by omega
      clear hG hLR hlo
      by_cases h8 : 8192 < 1 + k + m
      case pos =>
        have hr : R = .error 71 := by rw [HGG.out]; exact if_pos h8
        have HE := Lib.hid hr
        have h8' : (8192 : Int) < 1 + (k : Int) + (m : Int) := by omega
        clear hr
        go_wp2_with fail
        refine hC.mono ?_; rintro e w' ⟨rfl, rfl⟩
        clear hC
        have f0 := q1.free 0; have f1 := q1.free 1; have f2 := q1.free 2; have x0 := q1.cell0; have x1 := q1.cell1; have x2 := q1.cell2; have xl := q1.lt
        go_wp2_with fail
        have hzz := (zero3 q1 (.int .i64 0) (.slice none 0 0) (.slice none 0 0)).alloc (.cells #[.int .i64 t, .func (.func f) #[] #[]] 109)
        have hbz := (below3 hB1 WB.out (.int .i64 0) (.slice none 0 0) (.slice none 0 0)).alloc (by simp; omega) (.cells #[.int .i64 t, .func (.func f) #[] #[]] 109)
        refine bodyPost_ret (item_ret rfl rfl hzz) rfl ?_
        exact ⟨by rw [HE.out]; rfl, hbz⟩
      have h8' : ¬ (8192 : Int) < 1 + (k : Int) + (m : Int) := by omega
      have p1 : (0 : Int) ≤ 1 + (k : Int) := by omega
      have p2 : 1 + (k : Int) ≤ (n : Int) := by omega
      by_cases hm : n - (1 + k) < m
      case pos =>
        have hr : R = .error 70 := by rw [HGG.out]; unfold getOk; rw [if_neg h8, if_pos (by rw [HB1L.out]; omega)]
        have HE := Lib.hid hr
        clear hr
        have hm' : ((n - (1 + k) : Nat) : Int) < (m : Int) := by omega
        go_wp2_with fail
        refine hC.mono ?_; rintro e w' ⟨rfl, rfl⟩
        clear hC
        by_cases hck : c = 1 + k
        · skip
          have f0 := q1.free 0; have f1 := q1.free 1; have f2 := q1.free 2; have x0 := q1.cell0; have x1 := q1.cell1; have x2 := q1.cell2; have xl := q1.lt
          go_wp2_with fail
          have hzz := (zero3 q1 (.int .i64 0) (.slice none 0 0) (.slice none 0 0)).alloc (.cells #[.int .i64 t, .func (.func f) #[] #[]] 109)
          have hbz := (below3 hB1 WB.out (.int .i64 0) (.slice none 0 0) (.slice none 0 0)).alloc (by simp; omega) (.cells #[.int .i64 t, .func (.func f) #[] #[]] 109)
          refine bodyPost_ret (item_ret rfl rfl hzz) rfl ?_
          exact ⟨by rw [HE.out]; rfl, hbz⟩
        · skip
          have f0 := q1.free 0; have f1 := q1.free 1; have f2 := q1.free 2; have x0 := q1.cell0; have x1 := q1.cell1; have x2 := q1.cell2; have xl := q1.lt
          go_wp2_with fail
          have hzz := (zero3 q1 (.int .i64 0) (.slice none 0 0) (.slice none 0 0)).alloc (.cells #[.int .i64 t, .func (.func f) #[] #[]] 109)
          have hbz := (below3 hB1 WB.out (.int .i64 0) (.slice none 0 0) (.slice none 0 0)).alloc (by simp; omega) (.cells #[.int .i64 t, .func (.func f) #[] #[]] 109)
          refine bodyPost_ret (item_ret rfl rfl hzz) rfl ?_
          exact ⟨by rw [HE.out]; rfl, hbz⟩
      have hm' : ¬ ((n - (1 + k) : Nat) : Int) < (m : Int) := by omega
      have hGG : R = if t = 48 then
          match Dm.many (subGet d) ((b1.drop k).take m).length ((b1.drop k).take m) with
          | none => .error 71
          | some l => .ok (.mk t [] l, (b1.drop k).drop m)
        else if Dm.mayB t ((b1.drop k).take m) then .ok (.mk t ((b1.drop k).take m) [], (b1.drop k).drop m) else .error 71 := by
        rw [HGG.out]; unfold getOk; rw [if_neg h8, if_neg (by rw [HB1L.out]; omega)]
      have HG2 := Lib.hid hGG
      clear hGG
      have f0 := q1.free 0; have x0 := q1.cell0; have xl := q1.lt
      have hln : (b1.drop k).length = n - (1 + k) := by rw [List.length_drop, HB1L.out]; omega
      have HLN := Lib.hid hln
      clear hln
      go_wp2_with fail
      refine hC.mono ?_; rintro e w' ⟨rfl, rfl⟩
      clear hC
      obtain ⟨V, hV⟩ : ∃ V, (w1.setCell ⟨B, 0, none⟩ (.int .i64 t)).alloc (.cells #[.int .i64 t, .func (.func f) #[] #[]] 109) = V := ⟨_, rfl⟩
      have qV : Trip V B 45 (.int .i64 t) (.slice none 0 0) (.slice none 0 0) := by rw [← hV]; exact (q1.set0 _).alloc _
      have hBV : Below B w V := by rw [← hV]; exact (hB1.setCell (Nat.le_refl _) _).alloc (by simp; omega) _
      have hgV : Duo V w1.heap.size 109 (.int .i64 t) (.func (.func f) #[] #[]) := by rw [← hV]; exact Duo.new' _ _ _ _ _ (by simp)
      have HV := Lib.hid hV
      clear hV
      have HIL : Hid (((b1.drop k).take m).length = m) := Lib.hid (by rw [List.length_take, HLN.out]; omega)
      have HRL : Hid (((b1.drop k).drop m).length = n - (1 + k) - m) := Lib.hid (by rw [List.length_drop, HLN.out])
      have HM0 := Lib.hid hm
      obtain ⟨N0, hN0⟩ : ∃ N0, n - (1 + k) = N0 := ⟨_, rfl⟩
      have HN0 := Lib.hid hN0
      clear hm'
      have h1 := HH.out.below (show Below w.heap.size w V from by rw [HB.out]; exact hBV)
      have H1 := Lib.hid h1
      clear h1
      by_cases hck : c = 1 + k
      case pos =>
        have n00 : N0 = 0 := by have := HN0.out; omega
        have m00 : m = 0 := by have := HN0.out; have := HM0.out; omega
        have hdn : b1.drop k = [] := List.eq_nil_of_length_eq_zero (by rw [HLN.out, HN0.out]; exact n00)
        go_wp2_with fail
        rw [HV.out]
        clear hck f0 x0 xl
        subst n00 m00
        have RI : Hid (Row .u8 V (.slice (some ⟨b, off, none⟩) 0 0) ((b1.drop k).take 0)) := Lib.hid (by rw [hdn]; exact Row.empty _ _ _ _ (by unfold maxLen; omega) (fun h => by cases h))
        have RR : Hid (Row .u8 V (.slice (some ⟨b, off, none⟩) 0 0) ((b1.drop k).drop 0)) := Lib.hid (by rw [hdn]; exact Row.empty _ _ _ _ (by unfold maxLen; omega) (fun h => by cases h))
        have RT := RI
        have RRV : Hid (∀ V, Row .u8 V (.slice (some ⟨b, off, none⟩) n c) (t :: b1) → Row .u8 V (.slice (some ⟨b, off, none⟩) 0 0) ((b1.drop k).drop 0)) := Lib.hid (fun V _ => by rw [hdn]; exact Row.empty _ _ _ _ (by unfold maxLen; omega) (fun h => by cases h))
        clear hdn
        go_region
        all_goals
          obtain ⟨U, hU⟩ : ∃ U, V.drew = U := ⟨_, rfl⟩
          rw [hU]
          have qU : Trip U B 45 (.int .i64 t) (.slice none 0 0) (.slice none 0 0) := by rw [← hU]; exact qV
          have hBU : Below B w U := by rw [← hU]; exact hBV.drew
          have hgU : Duo U w1.heap.size 109 (.int .i64 t) (.func (.func f) #[] #[]) := by rw [← hU]; exact hgV
          have rI2 : Row .u8 U (.slice (some ⟨b, off, none⟩) 0 0) ((b1.drop k).take 0) := by rw [← hU]; exact RI.out.drew
          have rR2 : Row .u8 U (.slice (some ⟨b, off, none⟩) 0 0) ((b1.drop k).drop 0) := by rw [← hU]; exact RR.out.drew
          have RI2 := Lib.hid rI2; have RR2 := Lib.hid rR2
          clear hU rI2 rR2 qV hBV hgV RI RR RT
          have y0 := qU.cell0; have y1 := hgU.cell1; have y2 := hgU.cell0
          by_cases h48 : t = 48
          case pos =>
            subst h48
            have hr1 := HG2.out
            rw [if_pos rfl] at hr1
            have hw0 : Row .u8 w (.slice (some ⟨b, off, none⟩) n c) (48 :: b1) := row_len (by have := HBN.out; simp; omega) HH.out
            have hrw : Row .u8 w (.slice (some ⟨b, off, none⟩) 0 0) ((b1.drop k).take 0) := by rw [List.take_zero]; exact Row.empty _ _ _ _ (by unfold maxLen; omega) (fun h => by cases h)
            obtain ⟨inn, hinn⟩ : ∃ x, (b1.drop k).take 0 = x := ⟨_, rfl⟩
            have hil := HIL.out
            rw [hinn] at hr1 hrw hil
            have HR1 := Lib.hid hr1; have RIW := Lib.hid hrw; have HIL2 := Lib.hid hil
            have hs0 := (World.ownsRow_nil U (B + 1) 45 3)
            clear hr1 hw0 hrw hil
            go_wp2_with fail
            go_loopw [5, 6, 11, 12] (fun r5 e0 i0 _ wr => r5 = (.slice (some ⟨b, off, none⟩) 0 0) ∧ e0 = .int .i64 0 ∧ ∃ (ys : List Dm.It) (r : List Int) (a' : Option Addr) (c' : Nat) (lv : Value) (xs : List Value),
              i0 = .slice a' r.length c' ∧ Row .u8 w (.slice a' r.length c') r ∧ Trip wr B 45 (.int .i64 48) (.slice none 0 0) lv ∧ wr.ownsRow (B + 1) 45 3 lv ys.length xs ∧ Cells (B + 1) lv.ownBlock wr xs ys ∧
              Dm.many (subGet d) inn.length inn = (Dm.many (subGet d) r.length r).map (ys ++ ·) ∧ ys.length + r.length ≤ inn.length ∧ Below B w wr) (fun _ _ i0 _ _ => lenOf i0)
            case atStart => exact ⟨rfl, rfl, [], inn, _, _, _, [], by rw [HIL2.out], by rw [HIL2.out]; exact RIW.out, qU, hs0, rfl, by simp, by simp, hBU⟩
            case round =>
              obtain ⟨rfl, rfl, ys, r, a', c', lv, xs, rfl, hrw, hd, ho, hc, hmn, hle, hb⟩ := hrel
              have HRW := Lib.hid hrw; have HO := Lib.hid ho; have HCe := Lib.hid hc; have HMn := Lib.hid hmn; have HLe := Lib.hid hle; have HD := Lib.hid hd; have HBw := Lib.hid hb
              clear hrw ho hc hmn hle
              obtain ⟨al, nl, cl, rfl⟩ := owns_slice HO.out
              have f0 := hd.free 0; have f1 := hd.free 1; have f2 := hd.free 2; have x0 := hd.cell0; have x1 := hd.cell1; have x2 := hd.cell2; have xl := hd.lt
              cases r with
              | nil =>
                go_wp2_with fail
                have hq := zero3 HD.out (.int .i64 48) (.slice none 0 0) (.slice al nl cl)
                refine bodyPost_ret (item_ret rfl rfl hq) rfl ?_
                have hr : R = .ok (.mk 48 [] ys, (b1.drop k).drop 0) := by rw [HR1.out, HMn.out, many_end]; simp
                have hnl : nl = ys.length := by
                  rcases HO.out.2 with ⟨h1, h2⟩ | ⟨g', cap', cur, h1, _⟩
                  · cases h1; omega
                  · cases h1; rfl
                subst hnl
                rw [hr]
                have e2 : ((b1.drop k).drop 0).length = 0 := by have := HRL.out; have := HN0.out; omega
                refine ⟨⟨none, 0, al, cl, some ⟨b, off, none⟩, 0, ?_, ?_, ?_⟩, bel3 HBw.out (Nat.le_refl _) _ _ _⟩
                · rw [e2]; rfl
                · exact ((Own.seq (by decide) HO.out HCe.out).kept ⟨by simp, fun k hk _ _ => ((Below.heap_setCell _ ⟨B, 2, none⟩ _ k (show k ≠ B by omega)).trans (Below.heap_setCell _ ⟨B, 1, none⟩ _ k (show k ≠ B by omega))).trans (Below.heap_setCell _ ⟨B, 0, none⟩ _ k (show k ≠ B by omega))⟩).mono (Nat.le_succ B)
                · intro V8 hV8
                  rw [e2]; exact row_len (by omega) (RRV.out V8 hV8)
              | cons r0 r1 =>
                obtain ⟨d', hd'⟩ : ∃ d', d' + 1 = d := ⟨d - 1, by omega⟩
                have wd : IntKind.i64.wrap ((d : Int) - 1) = (d' : Int) := (IntWalk.i64_in _ (by omega)).trans (by omega)
                have hsub : subGet d = Dm.get d' := by rw [← hd']; rfl
                obtain ⟨L, hL⟩ : ∃ L, (r0 :: r1).length = L := ⟨_, rfl⟩
                have L0 : 0 < L := by rw [← hL]; simp
                have L0' : (0 : Int) < (L : Int) := by omega
                have lel : L ≤ 1000000 := by have h1 := HLe.out; rw [hL, HIL2.out] at h1; omega
                have hbw : Below w.heap.size w wr := by rw [HB.out]; exact HBw.out
                have hkw : KindsAt wr := HK0.out.below hbw
                have rwr := (HRW.out.below hbw).alloc (.cells #[.int .i64 0, .slice none 0 0, .slice none 0 0] 45)
                rw [hL] at rwr ⊢
                have hC := ih d' hd' _ (r0 :: r1) _ (hkw.alloc _) rwr (by rw [hL]; exact lel)
                have HWd := Lib.hid wd; have HL := Lib.hid hL; have HSub := Lib.hid hsub; have RWR := Lib.hid rwr
                clear hbw hkw rwr hsub hL
                obtain ⟨P, hP⟩ : ∃ P, wr.heap.size = P := ⟨_, rfl⟩
                have qP0 := Trip.new wr 45 (.int .i64 0) (.slice none 0 0) (.slice none 0 0)
                have hPs : (wr.alloc (.cells #[.int .i64 0, .slice none 0 0, .slice none 0 0] 45)).heap.size = P + 1 := by simp; omega
                rw [hP] at qP0
                have nPB : ¬ P = B := by omega
                have nBP : ¬ B = P := by omega
                go_wp2_with fail
                refine hC.mono ?_; rintro e w2 ⟨hG, hb2⟩
                rw [hPs] at hG
                have qP2 := trip_stp qP0 hb2
                have qB2 := trip_stp (HD.out.alloc _) hb2
                have hbw2 : Below wr.heap.size wr w2 := ((Below.refl _ wr).alloc (Nat.le_refl _) _).trans (hb2.mono (by simp))
                have hbB2 : Below B w w2 := HBw.out.trans (hbw2.mono (by omega))
                have ho2 := owns_keep HO.out hbw2
                have hBP : B ≤ P := by omega
                have QP := Lib.hid qP2; have QB := Lib.hid qB2; have HB2 := Lib.hid hbB2; have HW2 := Lib.hid hbw2; have HO2 := Lib.hid ho2
                clear hC hb2 qP0 hPs hbw2 hbB2 ho2 f0 f1 f2 x0 x1 x2 xl hd
                have f0 := qB2.free 0; have f1 := qB2.free 1; have f2 := qB2.free 2; have x0 := qB2.cell0; have x1 := qB2.cell1; have x2 := qB2.cell2; have xl := qB2.lt
                have g0 := qP2.free 0; have g1 := qP2.free 1; have g2 := qP2.free 2; have z0 := qP2.cell0; have z1 := qP2.cell1; have z2 := qP2.cell2; have zl := qP2.lt
                clear qP2 qB2
                obtain ⟨X, hX⟩ : ∃ X, Dm.get d' (r0 :: r1) = X := ⟨_, rfl⟩
                rw [hX] at hG
                match X, hX, hG with
                | .error cc, hX, hG =>
                  have hG' : e = .returned (.tuple #[noV, .slice none 0 0, .int .i64 cc]) := hG
                  subst hG'
                  have hr : R = .error 71 := by
                    have hm0 : Dm.many (subGet d) (r0 :: r1).length (r0 :: r1) = none := many_stop (by simp) (by rw [HSub.out]; exact hX)
                    rw [HR1.out, HMn.out, hm0]; rfl
                  have HE := Lib.hid hr
                  have hcc := get_fail hX
                  clear hr hX hG
                  have hz3 := fun u0 u1 u2 => zero3 (((QB.out.other (p := ⟨P, 0, none⟩) nPB u0).other (p := ⟨P, 1, none⟩) nPB u1).other (p := ⟨P, 2, none⟩) nPB u2) (.int .i64 0) (.slice none 0 0) (.slice none 0 0)
                  have hb3 := fun u0 u1 u2 => below3 (below3 HB2.out hBP u0 u1 u2) WB.out (.int .i64 0) (.slice none 0 0) (.slice none 0 0)
                  have HZ3 := Lib.hid hz3; have HB3 := Lib.hid hb3
                  clear hz3 hb3
                  rcases hcc with rfl | rfl
                  all_goals
                    go_wp2_with fail
                    refine bodyPost_ret (item_ret rfl rfl (HZ3.out _ _ _)) rfl ?_
                    exact ⟨by rw [HE.out]; rfl, HB3.out _ _ _⟩
                | .ok (y, r'), hX, hG =>
                  obtain ⟨ab, cb, al2, cl2, a9, c9, rfl, hown, hrest⟩ := hG
                  have hless := get_less d' _ _ _ hX
                  have hX' := hX
                  rw [← HSub.out] at hX'
                  have hms := many_step (fun b y r h => get_less d' b y r (by rw [← HSub.out]; exact h)) (by simp) hX'
                  have hmn2 : Dm.many (subGet d) inn.length inn = (Dm.many (subGet d) r'.length r').map ((ys ++ [y]) ++ ·) := by
                    rw [HMn.out, hms, Option.map_map]; congr 1; funext q; simp
                  have hrw2 := HRW.out
                  rw [HL.out] at hrw2 hless
                  have hle2 : (ys ++ [y]).length + r'.length ≤ inn.length := by have h1 := HLe.out; rw [HL.out] at h1; rw [List.length_append, List.length_singleton]; omega
                  have hrw3 := hrest w hrw2
                  have hy63 : ys.length + 1 ≤ 65536 := by rw [List.length_append, List.length_singleton, HIL2.out] at hle2; omega
                  have HMn2 := Lib.hid hmn2; have HLe2 := Lib.hid hle2; have HR3 := Lib.hid hrw3; have HY := Lib.hid hown; have HLess := Lib.hid hless; have HY63 := Lib.hid hy63
                  clear hX hX' hms hmn2 hrw2 hle2 hrest hrw3 hown hless hy63
                  obtain ⟨j0, gi, gz0, gz1, gz2⟩ := info_parts info_item
                  obtain ⟨nb, hnb⟩ : ∃ nb, y.b.length = nb := ⟨_, rfl⟩
                  obtain ⟨nl2, hnl2⟩ : ∃ nl2, y.l.length = nl2 := ⟨_, rfl⟩
                  rw [hnb, hnl2]
                  have HY2 := HY.out
                  rw [hnb, hnl2] at HY2
                  have HY3 := Lib.hid HY2
                  clear HY2 HY hnb hnl2
                  have hne : (Value.slice al nl cl).ownBlock ≠ some P := fun e => by have := (own_at HO.out e).2; omega
                  obtain ⟨W3, hW3⟩ : ∃ W3, ((w2.setCell ⟨P, 0, none⟩ (.int .i64 y.tag)).setCell ⟨P, 1, none⟩ (.slice ab nb cb)).setCell ⟨P, 2, none⟩ (.slice al2 nl2 cl2) = W3 := ⟨_, rfl⟩
                  have ho3 : W3.ownsRow (B + 1) 45 3 (.slice al nl cl) ys.length xs := by
                    rw [← hW3]; exact ownsRow_setCell_other (ownsRow_setCell_other (ownsRow_setCell_other HO2.out (a := ⟨P, 0, none⟩) hne _) (a := ⟨P, 1, none⟩) hne _) (a := ⟨P, 2, none⟩) hne _
                  have hbW3 : Below wr.heap.size wr W3 := by rw [← hW3]; exact below3 HW2.out (by omega) _ _ _
                  have hk3 : Keep (P + 1) none w2 W3 := by
                    rw [← hW3]; exact ⟨by simp, fun k hk _ _ => ((Below.heap_setCell _ ⟨P, 2, none⟩ _ k (show k ≠ P by omega)).trans (Below.heap_setCell _ ⟨P, 1, none⟩ _ k (show k ≠ P by omega))).trans (Below.heap_setCell _ ⟨P, 0, none⟩ _ k (show k ≠ P by omega))⟩
                  have hy3 := HY3.out.kept hk3
                  have qB3 : Trip W3 B 45 (.int .i64 48) (.slice none 0 0) (.slice al nl cl) := by
                    rw [← hW3]; exact ((QB.out.other (p := ⟨P, 0, none⟩) nPB _).other (p := ⟨P, 1, none⟩) nPB _).other (p := ⟨P, 2, none⟩) nPB _
                  have HO3 := Lib.hid ho3; have HBW3 := Lib.hid hbW3; have HY4 := Lib.hid hy3; have HQB3 := Lib.hid qB3; have HW3 := Lib.hid hW3
                  have hs3 : W3.heap.size = w2.heap.size := by rw [← hW3]; simp
                  have HS3 := Lib.hid hs3
                  clear ho3 hbW3 hk3 hy3 qB3 hW3 hs3 hne
                  go_wp2_with (first
                    | (at_builtin
                       rw [HW3.out]
                       refine wpList_append_own_at _ rfl (.tmp 96) (.tmp 98) 43 rfl (B + 1) 45 j0 (.agg #[.int .i64 0, .slice none 0 0, .slice none 0 0]) 3 56 Tryz.underlying43 gi gz0 gz1 gz2 rfl (by decide) (.slice al nl cl) ys.length xs rfl (HO3.out.alloc _) _ 1 1 [.int .i64 y.tag, .slice ab nb cb, .slice al2 nl2 cl2] rfl rfl (by have h9 := cells_new3 W3 (.int .i64 y.tag) (.slice ab nb cb) (.slice al2 nl2 cl2) 45; rw [HS3.out] at h9; exact h9) (by intro u hu; simp at hu; rcases hu with rfl | rfl | rfl <;> rfl) (by have := HY63.out; unfold maxLen; omega) (by have := HY63.out; omega) (by have := HBW3.out.size; simp; omega) ?_
                       intro v' w5 own5 hgrow _ hat
                       obtain ⟨a5, n5, c5, rfl⟩ := owns_slice own5
                       have qB5 : Trip w5 B 45 (.int .i64 48) (.slice none 0 0) (.slice al nl cl) := (hgrow.block B (by have := HQB3.out.lt; simp; omega) (fun e => by have := (own_at HO.out e.symm).1; omega)).trans (HQB3.out.alloc _)
                       have f5 := qB5.free 2
                       have x5 := qB5.cell2)
                    | fail)
                  obtain ⟨s1, s2, s3, s4⟩ := seq_step HD.out HO.out HCe.out HBw.out (HBW3.out.alloc HBW3.out.size _) (by rw [hP]; exact HY4.out.kept (Keep.of_below ((Below.refl W3.heap.size W3).alloc (Nat.le_refl _) _) (Nat.le_refl _))) hgrow own5 hat
                  refine ⟨⟨rfl, rfl, ys ++ [y], r', a9, c9, .slice a5 n5 c5, xs ++ [.int .i64 y.tag, .slice ab nb cb, .slice al2 nl2 cl2], rfl, HR3.out, s1, s2, s3, HMn2.out, HLe2.out, s4⟩, ?_⟩
                  exact HLess.out
          have h48' : (t != 48) = true := by simpa using h48
          have hKF := HKF.out
          rw [HF5.out] at hKF
          have h5 := H5.out
          rw [HF5.out] at h5
          have hC := hKF _ _ U RI2.out (by rw [HIL.out]; omega)
          have hr1 := HG2.out
          rw [if_neg h48] at hr1
          obtain ⟨M, hM⟩ : ∃ M, Dm.mayB t ((b1.drop k).take 0) = M := ⟨_, rfl⟩
          rw [hM] at hC hr1
          have HR1 := Lib.hid hr1
          clear hr1 hKF hM
          rcases h5 with rfl | rfl | rfl | rfl | rfl
          all_goals
            cases M with
            | false =>
              have hr : R = .error 71 := by rw [HR1.out]; exact if_neg (by decide)
              have HE := Lib.hid hr
              clear hr
              go_wp2_with fail
              refine hC.mono ?_; rintro e w' ⟨rfl, rfl⟩
              clear hC
              have f0 := qU.free 0; have f1 := qU.free 1; have f2 := qU.free 2; have x0 := qU.cell0; have x1 := qU.cell1; have x2 := qU.cell2; have xl := qU.lt
              go_wp2_with fail
              have hzz := zero3 qU (.int .i64 0) (.slice none 0 0) (.slice none 0 0)
              refine bodyPost_ret (item_ret rfl rfl hzz) rfl ?_
              exact ⟨by rw [HE.out]; rfl, below3 hBU WB.out _ _ _⟩
            | true =>
              have hr : R = .ok (.mk t ((b1.drop k).take 0) [], (b1.drop k).drop 0) := by rw [HR1.out]; exact if_pos rfl
              have HE := Lib.hid hr
              clear hr
              have hCl := Clone8_any _ _ U RI2.out (by rw [HIL.out]; omega)
              go_wp2_with fail
              refine hC.mono ?_; rintro e w' ⟨rfl, rfl⟩
              clear hC
              go_wp2_with fail
              refine hCl.mono ?_; rintro e w4 ⟨r, rfl, own, hb⟩
              have q4 := trip_stp qU hb
              have hB4 := hBU.trans (hb.mono (by have := qU.lt; omega))
              have rr := Row.of_bytes own (fun z hz => RI2.out.all_byte z hz)
              obtain ⟨ar, cr, rfl⟩ := rr.shape 0 HIL.out
              have blk := OwnB.blk own
              have rrest := RR2.out.below hb
              have RR4 := Lib.hid rr; have RS4 := Lib.hid rrest; have BK := Lib.hid blk
              have ltU := qU.lt
              clear hCl own rr rrest blk hb y0 y1 y2 qU
              have f0 := q4.free 0; have f1 := q4.free 1; have f2 := q4.free 2; have x0 := q4.cell0; have x1 := q4.cell1; have x2 := q4.cell2; have xl := q4.lt
              have hoff := RR4.out.off_trip q4; have hofs := RS4.out.off_trip q4
              have HO1 := Lib.hid hoff; have HO2 := Lib.hid hofs
              clear hoff hofs
              go_wp2_with fail
              have hq := zero3 (q4.set1 (.slice ar 0 cr)) (.int .i64 t) (.slice ar 0 cr) (.slice none 0 0)
              refine bodyPost_ret (item_ret rfl rfl hq) rfl ?_
              rw [HE.out]
              have hwt : (Lit.int .i64 t).wf = true := by simp [Lit.wf, IntKind.min, IntKind.max, IntKind.bits, IntKind.signed]; omega
              have e1 : (Dm.It.mk t ((b1.drop k).take 0) []).b.length = 0 := HIL.out
              have e2 : ((b1.drop k).drop 0).length = 0 := by have := HRL.out; have := HN0.out; omega
              refine ⟨⟨ar, cr, none, 0, some ⟨b, off, none⟩, 0, ?_, ?_, ?_⟩, bel3 (hB4.setCell (Nat.le_refl _) _) (Nat.le_refl _) _ _ _⟩
              · rw [e1, e2]; rfl
              · refine Own.bytes hwt (by rw [e1]; exact (RR4.out.aside (p := ⟨B, 1, none⟩) HO1.out _).aside3 HO1.out _ _ _) ?_
                rintro bb oo nn cc e0 h0
                cases e0
                have := BK.out bb rfl; omega
              · intro V8 hV8
                rw [e2]; exact row_len (by omega) (RRV.out V8 hV8)
      have hck2 : 1 + k < c := by omega
      have rTV : ∀ V, Row .u8 V (.slice (some ⟨b, off, none⟩) n c) (t :: b1) → Row .u8 V (.slice (some ⟨b, off + (1 + k), none⟩) N0 (c - (1 + k))) (b1.drop k) := by
        intro V hV
        have h2 := Row.cut hV (1 + k) (by have := HBN.out; simp; omega) hck2
        rw [show (t :: b1).drop (1 + k) = b1.drop k by rw [Nat.add_comm]; rfl, show n - (1 + k) = N0 from HN0.out] at h2
        simpa [addr_add] using h2
      have rT := rTV V (row_len (by have := HBN.out; simp; omega) H1.out)
      go_wp2_with fail
      rw [HV.out]
      obtain ⟨A0, hA0⟩ : ∃ A0, off + (1 + k) = A0 := ⟨_, rfl⟩
      obtain ⟨C0, hC0⟩ : ∃ C0, c - (1 + k) = C0 := ⟨_, rfl⟩
      rw [hA0, hC0] at rT rTV
      rw [hA0, hC0]
      have RTV := Lib.hid rTV
      clear rTV
      clear hA0 hC0 hck hck2 f0 x0 xl
      have hmN : m ≤ N0 := by have := HN0.out; have := HM0.out; omega
      have hNC : N0 ≤ C0 := by obtain ⟨_, _, e', hc, _⟩ := rT; cases e'; have := HLN.out; have := HN0.out; omega
      have m0 : (0 : Int) ≤ (m : Int) := by omega
      have m1 : (m : Int) ≤ (N0 : Int) := by omega
      have m2 : (m : Int) ≤ (C0 : Int) := by omega
      have RI := Lib.hid (Row.take rT m (by rw [HLN.out, HN0.out]; exact hmN)); have RT := Lib.hid rT
      clear rT
      by_cases hcm : C0 = m
      case pos =>
        have hle : m ≤ (b1.drop k).length := by rw [HLN.out, HN0.out]; exact hmN
        have rr := Row.cut_all RT.out m hle (by omega)
        have RRV : Hid (∀ V, Row .u8 V (.slice (some ⟨b, off, none⟩) n c) (t :: b1) → Row .u8 V (.slice (some ⟨b, A0, none⟩) (N0 - m) 0) ((b1.drop k).drop m)) := Lib.hid (fun V hV => Row.cut_all (RTV.out V hV) m hle (by omega))
        clear hle
        have RR := Lib.hid rr
        clear rr
        have hcm' := hcm.symm
        subst hcm'
        clear hcm
        go_region
        all_goals
          obtain ⟨U, hU⟩ : ∃ U, V.drew = U := ⟨_, rfl⟩
          rw [hU]
          have qU : Trip U B 45 (.int .i64 t) (.slice none 0 0) (.slice none 0 0) := by rw [← hU]; exact qV
          have hBU : Below B w U := by rw [← hU]; exact hBV.drew
          have hgU : Duo U w1.heap.size 109 (.int .i64 t) (.func (.func f) #[] #[]) := by rw [← hU]; exact hgV
          have rI2 : Row .u8 U (.slice (some ⟨b, A0, none⟩) m m) ((b1.drop k).take m) := by rw [← hU]; exact RI.out.drew
          have rR2 : Row .u8 U (.slice (some ⟨b, A0, none⟩) (N0 - m) 0) ((b1.drop k).drop m) := by rw [← hU]; exact RR.out.drew
          have RI2 := Lib.hid rI2; have RR2 := Lib.hid rR2
          clear hU rI2 rR2 qV hBV hgV RI RR RT
          have y0 := qU.cell0; have y1 := hgU.cell1; have y2 := hgU.cell0
          by_cases h48 : t = 48
          case pos =>
            subst h48
            have hr1 := HG2.out
            rw [if_pos rfl] at hr1
            have hw0 : Row .u8 w (.slice (some ⟨b, off, none⟩) n c) (48 :: b1) := row_len (by have := HBN.out; simp; omega) HH.out
            have hrw : Row .u8 w (.slice (some ⟨b, A0, none⟩) m m) ((b1.drop k).take m) := Row.take (RTV.out w hw0) m (by rw [HLN.out, HN0.out]; exact hmN)
            obtain ⟨inn, hinn⟩ : ∃ x, (b1.drop k).take m = x := ⟨_, rfl⟩
            have hil := HIL.out
            rw [hinn] at hr1 hrw hil
            have HR1 := Lib.hid hr1; have RIW := Lib.hid hrw; have HIL2 := Lib.hid hil
            have hs0 := (World.ownsRow_nil U (B + 1) 45 3)
            clear hr1 hw0 hrw hil
            go_wp2_with fail
            go_loopw [5, 6, 11, 12] (fun r5 e0 i0 _ wr => r5 = (.slice (some ⟨b, A0, none⟩) 0 0) ∧ e0 = .int .i64 0 ∧ ∃ (ys : List Dm.It) (r : List Int) (a' : Option Addr) (c' : Nat) (lv : Value) (xs : List Value),
              i0 = .slice a' r.length c' ∧ Row .u8 w (.slice a' r.length c') r ∧ Trip wr B 45 (.int .i64 48) (.slice none 0 0) lv ∧ wr.ownsRow (B + 1) 45 3 lv ys.length xs ∧ Cells (B + 1) lv.ownBlock wr xs ys ∧
              Dm.many (subGet d) inn.length inn = (Dm.many (subGet d) r.length r).map (ys ++ ·) ∧ ys.length + r.length ≤ inn.length ∧ Below B w wr) (fun _ _ i0 _ _ => lenOf i0)
            case atStart => exact ⟨rfl, rfl, [], inn, _, _, _, [], by rw [HIL2.out], by rw [HIL2.out]; exact RIW.out, qU, hs0, rfl, by simp, by simp, hBU⟩
            case round =>
              obtain ⟨rfl, rfl, ys, r, a', c', lv, xs, rfl, hrw, hd, ho, hc, hmn, hle, hb⟩ := hrel
              have HRW := Lib.hid hrw; have HO := Lib.hid ho; have HCe := Lib.hid hc; have HMn := Lib.hid hmn; have HLe := Lib.hid hle; have HD := Lib.hid hd; have HBw := Lib.hid hb
              clear hrw ho hc hmn hle
              obtain ⟨al, nl, cl, rfl⟩ := owns_slice HO.out
              have f0 := hd.free 0; have f1 := hd.free 1; have f2 := hd.free 2; have x0 := hd.cell0; have x1 := hd.cell1; have x2 := hd.cell2; have xl := hd.lt
              cases r with
              | nil =>
                go_wp2_with fail
                have hq := zero3 HD.out (.int .i64 48) (.slice none 0 0) (.slice al nl cl)
                refine bodyPost_ret (item_ret rfl rfl hq) rfl ?_
                have hr : R = .ok (.mk 48 [] ys, (b1.drop k).drop m) := by rw [HR1.out, HMn.out, many_end]; simp
                have hnl : nl = ys.length := by
                  rcases HO.out.2 with ⟨h1, h2⟩ | ⟨g', cap', cur, h1, _⟩
                  · cases h1; omega
                  · cases h1; rfl
                subst hnl
                rw [hr]
                have e2 : ((b1.drop k).drop m).length = 0 := by have := HRL.out; have := HN0.out; omega
                refine ⟨⟨none, 0, al, cl, some ⟨b, A0, none⟩, 0, ?_, ?_, ?_⟩, bel3 HBw.out (Nat.le_refl _) _ _ _⟩
                · rw [e2]; rfl
                · exact ((Own.seq (by decide) HO.out HCe.out).kept ⟨by simp, fun k hk _ _ => ((Below.heap_setCell _ ⟨B, 2, none⟩ _ k (show k ≠ B by omega)).trans (Below.heap_setCell _ ⟨B, 1, none⟩ _ k (show k ≠ B by omega))).trans (Below.heap_setCell _ ⟨B, 0, none⟩ _ k (show k ≠ B by omega))⟩).mono (Nat.le_succ B)
                · intro V8 hV8
                  rw [e2]; exact row_len (by omega) (RRV.out V8 hV8)
              | cons r0 r1 =>
                obtain ⟨d', hd'⟩ : ∃ d', d' + 1 = d := ⟨d - 1, by omega⟩
                have wd : IntKind.i64.wrap ((d : Int) - 1) = (d' : Int) := (IntWalk.i64_in _ (by omega)).trans (by omega)
                have hsub : subGet d = Dm.get d' := by rw [← hd']; rfl
                obtain ⟨L, hL⟩ : ∃ L, (r0 :: r1).length = L := ⟨_, rfl⟩
                have L0 : 0 < L := by rw [← hL]; simp
                have L0' : (0 : Int) < (L : Int) := by omega
                have lel : L ≤ 1000000 := by have h1 := HLe.out; rw [hL, HIL2.out] at h1; omega
                have hbw : Below w.heap.size w wr := by rw [HB.out]; exact HBw.out
                have hkw : KindsAt wr := HK0.out.below hbw
                have rwr := (HRW.out.below hbw).alloc (.cells #[.int .i64 0, .slice none 0 0, .slice none 0 0] 45)
                rw [hL] at rwr ⊢
                have hC := ih d' hd' _ (r0 :: r1) _ (hkw.alloc _) rwr (by rw [hL]; exact lel)
                have HWd := Lib.hid wd; have HL := Lib.hid hL; have HSub := Lib.hid hsub; have RWR := Lib.hid rwr
                clear hbw hkw rwr hsub hL
                obtain ⟨P, hP⟩ : ∃ P, wr.heap.size = P := ⟨_, rfl⟩
                have qP0 := Trip.new wr 45 (.int .i64 0) (.slice none 0 0) (.slice none 0 0)
                have hPs : (wr.alloc (.cells #[.int .i64 0, .slice none 0 0, .slice none 0 0] 45)).heap.size = P + 1 := by simp; omega
                rw [hP] at qP0
                have nPB : ¬ P = B := by omega
                have nBP : ¬ B = P := by omega
                go_wp2_with fail
                refine hC.mono ?_; rintro e w2 ⟨hG, hb2⟩
                rw [hPs] at hG
                have qP2 := trip_stp qP0 hb2
                have qB2 := trip_stp (HD.out.alloc _) hb2
                have hbw2 : Below wr.heap.size wr w2 := ((Below.refl _ wr).alloc (Nat.le_refl _) _).trans (hb2.mono (by simp))
                have hbB2 : Below B w w2 := HBw.out.trans (hbw2.mono (by omega))
                have ho2 := owns_keep HO.out hbw2
                have hBP : B ≤ P := by omega
                have QP := Lib.hid qP2; have QB := Lib.hid qB2; have HB2 := Lib.hid hbB2; have HW2 := Lib.hid hbw2; have HO2 := Lib.hid ho2
                clear hC hb2 qP0 hPs hbw2 hbB2 ho2 f0 f1 f2 x0 x1 x2 xl hd
                have f0 := qB2.free 0; have f1 := qB2.free 1; have f2 := qB2.free 2; have x0 := qB2.cell0; have x1 := qB2.cell1; have x2 := qB2.cell2; have xl := qB2.lt
                have g0 := qP2.free 0; have g1 := qP2.free 1; have g2 := qP2.free 2; have z0 := qP2.cell0; have z1 := qP2.cell1; have z2 := qP2.cell2; have zl := qP2.lt
                clear qP2 qB2
                obtain ⟨X, hX⟩ : ∃ X, Dm.get d' (r0 :: r1) = X := ⟨_, rfl⟩
                rw [hX] at hG
                match X, hX, hG with
                | .error cc, hX, hG =>
                  have hG' : e = .returned (.tuple #[noV, .slice none 0 0, .int .i64 cc]) := hG
                  subst hG'
                  have hr : R = .error 71 := by
                    have hm0 : Dm.many (subGet d) (r0 :: r1).length (r0 :: r1) = none := many_stop (by simp) (by rw [HSub.out]; exact hX)
                    rw [HR1.out, HMn.out, hm0]; rfl
                  have HE := Lib.hid hr
                  have hcc := get_fail hX
                  clear hr hX hG
                  have hz3 := fun u0 u1 u2 => zero3 (((QB.out.other (p := ⟨P, 0, none⟩) nPB u0).other (p := ⟨P, 1, none⟩) nPB u1).other (p := ⟨P, 2, none⟩) nPB u2) (.int .i64 0) (.slice none 0 0) (.slice none 0 0)
                  have hb3 := fun u0 u1 u2 => below3 (below3 HB2.out hBP u0 u1 u2) WB.out (.int .i64 0) (.slice none 0 0) (.slice none 0 0)
                  have HZ3 := Lib.hid hz3; have HB3 := Lib.hid hb3
                  clear hz3 hb3
                  rcases hcc with rfl | rfl
                  all_goals
                    go_wp2_with fail
                    refine bodyPost_ret (item_ret rfl rfl (HZ3.out _ _ _)) rfl ?_
                    exact ⟨by rw [HE.out]; rfl, HB3.out _ _ _⟩
                | .ok (y, r'), hX, hG =>
                  obtain ⟨ab, cb, al2, cl2, a9, c9, rfl, hown, hrest⟩ := hG
                  have hless := get_less d' _ _ _ hX
                  have hX' := hX
                  rw [← HSub.out] at hX'
                  have hms := many_step (fun b y r h => get_less d' b y r (by rw [← HSub.out]; exact h)) (by simp) hX'
                  have hmn2 : Dm.many (subGet d) inn.length inn = (Dm.many (subGet d) r'.length r').map ((ys ++ [y]) ++ ·) := by
                    rw [HMn.out, hms, Option.map_map]; congr 1; funext q; simp
                  have hrw2 := HRW.out
                  rw [HL.out] at hrw2 hless
                  have hle2 : (ys ++ [y]).length + r'.length ≤ inn.length := by have h1 := HLe.out; rw [HL.out] at h1; rw [List.length_append, List.length_singleton]; omega
                  have hrw3 := hrest w hrw2
                  have hy63 : ys.length + 1 ≤ 65536 := by rw [List.length_append, List.length_singleton, HIL2.out] at hle2; omega
                  have HMn2 := Lib.hid hmn2; have HLe2 := Lib.hid hle2; have HR3 := Lib.hid hrw3; have HY := Lib.hid hown; have HLess := Lib.hid hless; have HY63 := Lib.hid hy63
                  clear hX hX' hms hmn2 hrw2 hle2 hrest hrw3 hown hless hy63
                  obtain ⟨j0, gi, gz0, gz1, gz2⟩ := info_parts info_item
                  obtain ⟨nb, hnb⟩ : ∃ nb, y.b.length = nb := ⟨_, rfl⟩
                  obtain ⟨nl2, hnl2⟩ : ∃ nl2, y.l.length = nl2 := ⟨_, rfl⟩
                  rw [hnb, hnl2]
                  have HY2 := HY.out
                  rw [hnb, hnl2] at HY2
                  have HY3 := Lib.hid HY2
                  clear HY2 HY hnb hnl2
                  have hne : (Value.slice al nl cl).ownBlock ≠ some P := fun e => by have := (own_at HO.out e).2; omega
                  obtain ⟨W3, hW3⟩ : ∃ W3, ((w2.setCell ⟨P, 0, none⟩ (.int .i64 y.tag)).setCell ⟨P, 1, none⟩ (.slice ab nb cb)).setCell ⟨P, 2, none⟩ (.slice al2 nl2 cl2) = W3 := ⟨_, rfl⟩
                  have ho3 : W3.ownsRow (B + 1) 45 3 (.slice al nl cl) ys.length xs := by
                    rw [← hW3]; exact ownsRow_setCell_other (ownsRow_setCell_other (ownsRow_setCell_other HO2.out (a := ⟨P, 0, none⟩) hne _) (a := ⟨P, 1, none⟩) hne _) (a := ⟨P, 2, none⟩) hne _
                  have hbW3 : Below wr.heap.size wr W3 := by rw [← hW3]; exact below3 HW2.out (by omega) _ _ _
                  have hk3 : Keep (P + 1) none w2 W3 := by
                    rw [← hW3]; exact ⟨by simp, fun k hk _ _ => ((Below.heap_setCell _ ⟨P, 2, none⟩ _ k (show k ≠ P by omega)).trans (Below.heap_setCell _ ⟨P, 1, none⟩ _ k (show k ≠ P by omega))).trans (Below.heap_setCell _ ⟨P, 0, none⟩ _ k (show k ≠ P by omega))⟩
                  have hy3 := HY3.out.kept hk3
                  have qB3 : Trip W3 B 45 (.int .i64 48) (.slice none 0 0) (.slice al nl cl) := by
                    rw [← hW3]; exact ((QB.out.other (p := ⟨P, 0, none⟩) nPB _).other (p := ⟨P, 1, none⟩) nPB _).other (p := ⟨P, 2, none⟩) nPB _
                  have HO3 := Lib.hid ho3; have HBW3 := Lib.hid hbW3; have HY4 := Lib.hid hy3; have HQB3 := Lib.hid qB3; have HW3 := Lib.hid hW3
                  have hs3 : W3.heap.size = w2.heap.size := by rw [← hW3]; simp
                  have HS3 := Lib.hid hs3
                  clear ho3 hbW3 hk3 hy3 qB3 hW3 hs3 hne
                  go_wp2_with (first
                    | (at_builtin
                       rw [HW3.out]
                       refine wpList_append_own_at _ rfl (.tmp 96) (.tmp 98) 43 rfl (B + 1) 45 j0 (.agg #[.int .i64 0, .slice none 0 0, .slice none 0 0]) 3 56 Tryz.underlying43 gi gz0 gz1 gz2 rfl (by decide) (.slice al nl cl) ys.length xs rfl (HO3.out.alloc _) _ 1 1 [.int .i64 y.tag, .slice ab nb cb, .slice al2 nl2 cl2] rfl rfl (by have h9 := cells_new3 W3 (.int .i64 y.tag) (.slice ab nb cb) (.slice al2 nl2 cl2) 45; rw [HS3.out] at h9; exact h9) (by intro u hu; simp at hu; rcases hu with rfl | rfl | rfl <;> rfl) (by have := HY63.out; unfold maxLen; omega) (by have := HY63.out; omega) (by have := HBW3.out.size; simp; omega) ?_
                       intro v' w5 own5 hgrow _ hat
                       obtain ⟨a5, n5, c5, rfl⟩ := owns_slice own5
                       have qB5 : Trip w5 B 45 (.int .i64 48) (.slice none 0 0) (.slice al nl cl) := (hgrow.block B (by have := HQB3.out.lt; simp; omega) (fun e => by have := (own_at HO.out e.symm).1; omega)).trans (HQB3.out.alloc _)
                       have f5 := qB5.free 2
                       have x5 := qB5.cell2)
                    | fail)
                  obtain ⟨s1, s2, s3, s4⟩ := seq_step HD.out HO.out HCe.out HBw.out (HBW3.out.alloc HBW3.out.size _) (by rw [hP]; exact HY4.out.kept (Keep.of_below ((Below.refl W3.heap.size W3).alloc (Nat.le_refl _) _) (Nat.le_refl _))) hgrow own5 hat
                  refine ⟨⟨rfl, rfl, ys ++ [y], r', a9, c9, .slice a5 n5 c5, xs ++ [.int .i64 y.tag, .slice ab nb cb, .slice al2 nl2 cl2], rfl, HR3.out, s1, s2, s3, HMn2.out, HLe2.out, s4⟩, ?_⟩
                  exact HLess.out
          have h48' : (t != 48) = true := by simpa using h48
          have hKF := HKF.out
          rw [HF5.out] at hKF
          have h5 := H5.out
          rw [HF5.out] at h5
          have hC := hKF _ _ U RI2.out (by rw [HIL.out]; omega)
          have hr1 := HG2.out
          rw [if_neg h48] at hr1
          obtain ⟨M, hM⟩ : ∃ M, Dm.mayB t ((b1.drop k).take m) = M := ⟨_, rfl⟩
          rw [hM] at hC hr1
          have HR1 := Lib.hid hr1
          clear hr1 hKF hM
          rcases h5 with rfl | rfl | rfl | rfl | rfl
          all_goals
            cases M with
            | false =>
              have hr : R = .error 71 := by rw [HR1.out]; exact if_neg (by decide)
              have HE := Lib.hid hr
              clear hr
              go_wp2_with fail
              refine hC.mono ?_; rintro e w' ⟨rfl, rfl⟩
              clear hC
              have f0 := qU.free 0; have f1 := qU.free 1; have f2 := qU.free 2; have x0 := qU.cell0; have x1 := qU.cell1; have x2 := qU.cell2; have xl := qU.lt
              go_wp2_with fail
              have hzz := zero3 qU (.int .i64 0) (.slice none 0 0) (.slice none 0 0)
              refine bodyPost_ret (item_ret rfl rfl hzz) rfl ?_
              exact ⟨by rw [HE.out]; rfl, below3 hBU WB.out _ _ _⟩
            | true =>
              have hr : R = .ok (.mk t ((b1.drop k).take m) [], (b1.drop k).drop m) := by rw [HR1.out]; exact if_pos rfl
              have HE := Lib.hid hr
              clear hr
              have hCl := Clone8_any _ _ U RI2.out (by rw [HIL.out]; omega)
              go_wp2_with fail
              refine hC.mono ?_; rintro e w' ⟨rfl, rfl⟩
              clear hC
              go_wp2_with fail
              refine hCl.mono ?_; rintro e w4 ⟨r, rfl, own, hb⟩
              have q4 := trip_stp qU hb
              have hB4 := hBU.trans (hb.mono (by have := qU.lt; omega))
              have rr := Row.of_bytes own (fun z hz => RI2.out.all_byte z hz)
              obtain ⟨ar, cr, rfl⟩ := rr.shape m HIL.out
              have blk := OwnB.blk own
              have rrest := RR2.out.below hb
              have RR4 := Lib.hid rr; have RS4 := Lib.hid rrest; have BK := Lib.hid blk
              have ltU := qU.lt
              clear hCl own rr rrest blk hb y0 y1 y2 qU
              have f0 := q4.free 0; have f1 := q4.free 1; have f2 := q4.free 2; have x0 := q4.cell0; have x1 := q4.cell1; have x2 := q4.cell2; have xl := q4.lt
              have hoff := RR4.out.off_trip q4; have hofs := RS4.out.off_trip q4
              have HO1 := Lib.hid hoff; have HO2 := Lib.hid hofs
              clear hoff hofs
              go_wp2_with fail
              have hq := zero3 (q4.set1 (.slice ar m cr)) (.int .i64 t) (.slice ar m cr) (.slice none 0 0)
              refine bodyPost_ret (item_ret rfl rfl hq) rfl ?_
              rw [HE.out]
              have hwt : (Lit.int .i64 t).wf = true := by simp [Lit.wf, IntKind.min, IntKind.max, IntKind.bits, IntKind.signed]; omega
              have e1 : (Dm.It.mk t ((b1.drop k).take m) []).b.length = m := HIL.out
              have e2 : ((b1.drop k).drop m).length = 0 := by have := HRL.out; have := HN0.out; omega
              refine ⟨⟨ar, cr, none, 0, some ⟨b, A0, none⟩, 0, ?_, ?_, ?_⟩, bel3 (hB4.setCell (Nat.le_refl _) _) (Nat.le_refl _) _ _ _⟩
              · rw [e1, e2]; rfl
              · refine Own.bytes hwt (by rw [e1]; exact (RR4.out.aside (p := ⟨B, 1, none⟩) HO1.out _).aside3 HO1.out _ _ _) ?_
                rintro bb oo nn cc e0 h0
                cases e0
                have := BK.out bb rfl; omega
              · intro V8 hV8
                rw [e2]; exact row_len (by omega) (RRV.out V8 hV8)
      have hcm2 : m < C0 := by omega
      have rr := Row.cut RT.out m (by rw [HLN.out, HN0.out]; exact hmN) hcm2
      rw [Option.map_some, addr_add] at rr
      have RRV : Hid (∀ V, Row .u8 V (.slice (some ⟨b, off, none⟩) n c) (t :: b1) → Row .u8 V (.slice (some ⟨b, A0 + m, none⟩) (N0 - m) (C0 - m)) ((b1.drop k).drop m)) := Lib.hid (fun V hV => by have h2 := Row.cut (RTV.out V hV) m (by rw [HLN.out, HN0.out]; exact hmN) hcm2; rwa [Option.map_some, addr_add] at h2)
      have RR := Lib.hid rr
      clear rr
      go_region
      all_goals
        obtain ⟨U, hU⟩ : ∃ U, V.drew = U := ⟨_, rfl⟩
        rw [hU]
        have qU : Trip U B 45 (.int .i64 t) (.slice none 0 0) (.slice none 0 0) := by rw [← hU]; exact qV
        have hBU : Below B w U := by rw [← hU]; exact hBV.drew
        have hgU : Duo U w1.heap.size 109 (.int .i64 t) (.func (.func f) #[] #[]) := by rw [← hU]; exact hgV
        have rI2 : Row .u8 U (.slice (some ⟨b, A0, none⟩) m C0) ((b1.drop k).take m) := by rw [← hU]; exact RI.out.drew
        have rR2 : Row .u8 U (.slice (some ⟨b, A0 + m, none⟩) (N0 - m) (C0 - m)) ((b1.drop k).drop m) := by rw [← hU]; exact RR.out.drew
        have RI2 := Lib.hid rI2; have RR2 := Lib.hid rR2
        clear hU rI2 rR2 qV hBV hgV RI RR RT
        have y0 := qU.cell0; have y1 := hgU.cell1; have y2 := hgU.cell0
        by_cases h48 : t = 48
        case pos =>
          subst h48
          have hr1 := HG2.out
          rw [if_pos rfl] at hr1
          have hw0 : Row .u8 w (.slice (some ⟨b, off, none⟩) n c) (48 :: b1) := row_len (by have := HBN.out; simp; omega) HH.out
          have hrw : Row .u8 w (.slice (some ⟨b, A0, none⟩) m C0) ((b1.drop k).take m) := Row.take (RTV.out w hw0) m (by rw [HLN.out, HN0.out]; exact hmN)
          obtain ⟨inn, hinn⟩ : ∃ x, (b1.drop k).take m = x := ⟨_, rfl⟩
          have hil := HIL.out
          rw [hinn] at hr1 hrw hil
          have HR1 := Lib.hid hr1; have RIW := Lib.hid hrw; have HIL2 := Lib.hid hil
          have hs0 := (World.ownsRow_nil U (B + 1) 45 3)
          clear hr1 hw0 hrw hil
          go_wp2_with fail
          go_loopw [5, 6, 11, 12] (fun r5 e0 i0 _ wr => r5 = (.slice (some ⟨b, A0 + m, none⟩) (N0 - m) (C0 - m)) ∧ e0 = .int .i64 0 ∧ ∃ (ys : List Dm.It) (r : List Int) (a' : Option Addr) (c' : Nat) (lv : Value) (xs : List Value),
            i0 = .slice a' r.length c' ∧ Row .u8 w (.slice a' r.length c') r ∧ Trip wr B 45 (.int .i64 48) (.slice none 0 0) lv ∧ wr.ownsRow (B + 1) 45 3 lv ys.length xs ∧ Cells (B + 1) lv.ownBlock wr xs ys ∧
            Dm.many (subGet d) inn.length inn = (Dm.many (subGet d) r.length r).map (ys ++ ·) ∧ ys.length + r.length ≤ inn.length ∧ Below B w wr) (fun _ _ i0 _ _ => lenOf i0)
          case atStart => exact ⟨rfl, rfl, [], inn, _, _, _, [], by rw [HIL2.out], by rw [HIL2.out]; exact RIW.out, qU, hs0, rfl, by simp, by simp, hBU⟩
          case round =>
            obtain ⟨rfl, rfl, ys, r, a', c', lv, xs, rfl, hrw, hd, ho, hc, hmn, hle, hb⟩ := hrel
            have HRW := Lib.hid hrw; have HO := Lib.hid ho; have HCe := Lib.hid hc; have HMn := Lib.hid hmn; have HLe := Lib.hid hle; have HD := Lib.hid hd; have HBw := Lib.hid hb
            clear hrw ho hc hmn hle
            obtain ⟨al, nl, cl, rfl⟩ := owns_slice HO.out
            have f0 := hd.free 0; have f1 := hd.free 1; have f2 := hd.free 2; have x0 := hd.cell0; have x1 := hd.cell1; have x2 := hd.cell2; have xl := hd.lt
            cases r with
            | nil =>
              go_wp2_with fail
              have hq := zero3 HD.out (.int .i64 48) (.slice none 0 0) (.slice al nl cl)
              refine bodyPost_ret (item_ret rfl rfl hq) rfl ?_
              have hr : R = .ok (.mk 48 [] ys, (b1.drop k).drop m) := by rw [HR1.out, HMn.out, many_end]; simp
              have hnl : nl = ys.length := by
                rcases HO.out.2 with ⟨h1, h2⟩ | ⟨g', cap', cur, h1, _⟩
                · cases h1; omega
                · cases h1; rfl
              subst hnl
              rw [hr]
              have e2 : ((b1.drop k).drop m).length = N0 - m := by have := HRL.out; have := HN0.out; omega
              refine ⟨⟨none, 0, al, cl, some ⟨b, A0 + m, none⟩, C0 - m, ?_, ?_, ?_⟩, bel3 HBw.out (Nat.le_refl _) _ _ _⟩
              · rw [e2]; rfl
              · exact ((Own.seq (by decide) HO.out HCe.out).kept ⟨by simp, fun k hk _ _ => ((Below.heap_setCell _ ⟨B, 2, none⟩ _ k (show k ≠ B by omega)).trans (Below.heap_setCell _ ⟨B, 1, none⟩ _ k (show k ≠ B by omega))).trans (Below.heap_setCell _ ⟨B, 0, none⟩ _ k (show k ≠ B by omega))⟩).mono (Nat.le_succ B)
              · intro V8 hV8
                rw [e2]; exact row_len (by omega) (RRV.out V8 hV8)
            | cons r0 r1 =>
              obtain ⟨d', hd'⟩ : ∃ d', d' + 1 = d := ⟨d - 1, by omega⟩
              have wd : IntKind.i64.wrap ((d : Int) - 1) = (d' : Int) := (IntWalk.i64_in _ (by omega)).trans (by omega)
              have hsub : subGet d = Dm.get d' := by rw [← hd']; rfl
              obtain ⟨L, hL⟩ : ∃ L, (r0 :: r1).length = L := ⟨_, rfl⟩
              have L0 : 0 < L := by rw [← hL]; simp
              have L0' : (0 : Int) < (L : Int) := by omega
              have lel : L ≤ 1000000 := by have h1 := HLe.out; rw [hL, HIL2.out] at h1; omega
              have hbw : Below w.heap.size w wr := by rw [HB.out]; exact HBw.out
              have hkw : KindsAt wr := HK0.out.below hbw
              have rwr := (HRW.out.below hbw).alloc (.cells #[.int .i64 0, .slice none 0 0, .slice none 0 0] 45)
              rw [hL] at rwr ⊢
              have hC := ih d' hd' _ (r0 :: r1) _ (hkw.alloc _) rwr (by rw [hL]; exact lel)
              have HWd := Lib.hid wd; have HL := Lib.hid hL; have HSub := Lib.hid hsub; have RWR := Lib.hid rwr
              clear hbw hkw rwr hsub hL
              obtain ⟨P, hP⟩ : ∃ P, wr.heap.size = P := ⟨_, rfl⟩
              have qP0 := Trip.new wr 45 (.int .i64 0) (.slice none 0 0) (.slice none 0 0)
              have hPs : (wr.alloc (.cells #[.int .i64 0, .slice none 0 0, .slice none 0 0] 45)).heap.size = P + 1 := by simp; omega
              rw [hP] at qP0
              have nPB : ¬ P = B := by omega
              have nBP : ¬ B = P := by omega
              go_wp2_with fail
              refine hC.mono ?_; rintro e w2 ⟨hG, hb2⟩
              rw [hPs] at hG
              have qP2 := trip_stp qP0 hb2
              have qB2 := trip_stp (HD.out.alloc _) hb2
              have hbw2 : Below wr.heap.size wr w2 := ((Below.refl _ wr).alloc (Nat.le_refl _) _).trans (hb2.mono (by simp))
              have hbB2 : Below B w w2 := HBw.out.trans (hbw2.mono (by omega))
              have ho2 := owns_keep HO.out hbw2
              have hBP : B ≤ P := by omega
              have QP := Lib.hid qP2; have QB := Lib.hid qB2; have HB2 := Lib.hid hbB2; have HW2 := Lib.hid hbw2; have HO2 := Lib.hid ho2
              clear hC hb2 qP0 hPs hbw2 hbB2 ho2 f0 f1 f2 x0 x1 x2 xl hd
              have f0 := qB2.free 0; have f1 := qB2.free 1; have f2 := qB2.free 2; have x0 := qB2.cell0; have x1 := qB2.cell1; have x2 := qB2.cell2; have xl := qB2.lt
              have g0 := qP2.free 0; have g1 := qP2.free 1; have g2 := qP2.free 2; have z0 := qP2.cell0; have z1 := qP2.cell1; have z2 := qP2.cell2; have zl := qP2.lt
              clear qP2 qB2
              obtain ⟨X, hX⟩ : ∃ X, Dm.get d' (r0 :: r1) = X := ⟨_, rfl⟩
              rw [hX] at hG
              match X, hX, hG with
              | .error cc, hX, hG =>
                have hG' : e = .returned (.tuple #[noV, .slice none 0 0, .int .i64 cc]) := hG
                subst hG'
                have hr : R = .error 71 := by
                  have hm0 : Dm.many (subGet d) (r0 :: r1).length (r0 :: r1) = none := many_stop (by simp) (by rw [HSub.out]; exact hX)
                  rw [HR1.out, HMn.out, hm0]; rfl
                have HE := Lib.hid hr
                have hcc := get_fail hX
                clear hr hX hG
                have hz3 := fun u0 u1 u2 => zero3 (((QB.out.other (p := ⟨P, 0, none⟩) nPB u0).other (p := ⟨P, 1, none⟩) nPB u1).other (p := ⟨P, 2, none⟩) nPB u2) (.int .i64 0) (.slice none 0 0) (.slice none 0 0)
                have hb3 := fun u0 u1 u2 => below3 (below3 HB2.out hBP u0 u1 u2) WB.out (.int .i64 0) (.slice none 0 0) (.slice none 0 0)
                have HZ3 := Lib.hid hz3; have HB3 := Lib.hid hb3
                clear hz3 hb3
                rcases hcc with rfl | rfl
                all_goals
                  go_wp2_with fail
                  refine bodyPost_ret (item_ret rfl rfl (HZ3.out _ _ _)) rfl ?_
                  exact ⟨by rw [HE.out]; rfl, HB3.out _ _ _⟩
              | .ok (y, r'), hX, hG =>
                obtain ⟨ab, cb, al2, cl2, a9, c9, rfl, hown, hrest⟩ := hG
                have hless := get_less d' _ _ _ hX
                have hX' := hX
                rw [← HSub.out] at hX'
                have hms := many_step (fun b y r h => get_less d' b y r (by rw [← HSub.out]; exact h)) (by simp) hX'
                have hmn2 : Dm.many (subGet d) inn.length inn = (Dm.many (subGet d) r'.length r').map ((ys ++ [y]) ++ ·) := by
                  rw [HMn.out, hms, Option.map_map]; congr 1; funext q; simp
                have hrw2 := HRW.out
                rw [HL.out] at hrw2 hless
                have hle2 : (ys ++ [y]).length + r'.length ≤ inn.length := by have h1 := HLe.out; rw [HL.out] at h1; rw [List.length_append, List.length_singleton]; omega
                have hrw3 := hrest w hrw2
                have hy63 : ys.length + 1 ≤ 65536 := by rw [List.length_append, List.length_singleton, HIL2.out] at hle2; omega
                have HMn2 := Lib.hid hmn2; have HLe2 := Lib.hid hle2; have HR3 := Lib.hid hrw3; have HY := Lib.hid hown; have HLess := Lib.hid hless; have HY63 := Lib.hid hy63
                clear hX hX' hms hmn2 hrw2 hle2 hrest hrw3 hown hless hy63
                obtain ⟨j0, gi, gz0, gz1, gz2⟩ := info_parts info_item
                obtain ⟨nb, hnb⟩ : ∃ nb, y.b.length = nb := ⟨_, rfl⟩
                obtain ⟨nl2, hnl2⟩ : ∃ nl2, y.l.length = nl2 := ⟨_, rfl⟩
                rw [hnb, hnl2]
                have HY2 := HY.out
                rw [hnb, hnl2] at HY2
                have HY3 := Lib.hid HY2
                clear HY2 HY hnb hnl2
                have hne : (Value.slice al nl cl).ownBlock ≠ some P := fun e => by have := (own_at HO.out e).2; omega
                obtain ⟨W3, hW3⟩ : ∃ W3, ((w2.setCell ⟨P, 0, none⟩ (.int .i64 y.tag)).setCell ⟨P, 1, none⟩ (.slice ab nb cb)).setCell ⟨P, 2, none⟩ (.slice al2 nl2 cl2) = W3 := ⟨_, rfl⟩
                have ho3 : W3.ownsRow (B + 1) 45 3 (.slice al nl cl) ys.length xs := by
                  rw [← hW3]; exact ownsRow_setCell_other (ownsRow_setCell_other (ownsRow_setCell_other HO2.out (a := ⟨P, 0, none⟩) hne _) (a := ⟨P, 1, none⟩) hne _) (a := ⟨P, 2, none⟩) hne _
                have hbW3 : Below wr.heap.size wr W3 := by rw [← hW3]; exact below3 HW2.out (by omega) _ _ _
                have hk3 : Keep (P + 1) none w2 W3 := by
                  rw [← hW3]; exact ⟨by simp, fun k hk _ _ => ((Below.heap_setCell _ ⟨P, 2, none⟩ _ k (show k ≠ P by omega)).trans (Below.heap_setCell _ ⟨P, 1, none⟩ _ k (show k ≠ P by omega))).trans (Below.heap_setCell _ ⟨P, 0, none⟩ _ k (show k ≠ P by omega))⟩
                have hy3 := HY3.out.kept hk3
                have qB3 : Trip W3 B 45 (.int .i64 48) (.slice none 0 0) (.slice al nl cl) := by
                  rw [← hW3]; exact ((QB.out.other (p := ⟨P, 0, none⟩) nPB _).other (p := ⟨P, 1, none⟩) nPB _).other (p := ⟨P, 2, none⟩) nPB _
                have HO3 := Lib.hid ho3; have HBW3 := Lib.hid hbW3; have HY4 := Lib.hid hy3; have HQB3 := Lib.hid qB3; have HW3 := Lib.hid hW3
                have hs3 : W3.heap.size = w2.heap.size := by rw [← hW3]; simp
                have HS3 := Lib.hid hs3
                clear ho3 hbW3 hk3 hy3 qB3 hW3 hs3 hne
                go_wp2_with (first
                  | (at_builtin
                     rw [HW3.out]
                     refine wpList_append_own_at _ rfl (.tmp 96) (.tmp 98) 43 rfl (B + 1) 45 j0 (.agg #[.int .i64 0, .slice none 0 0, .slice none 0 0]) 3 56 Tryz.underlying43 gi gz0 gz1 gz2 rfl (by decide) (.slice al nl cl) ys.length xs rfl (HO3.out.alloc _) _ 1 1 [.int .i64 y.tag, .slice ab nb cb, .slice al2 nl2 cl2] rfl rfl (by have h9 := cells_new3 W3 (.int .i64 y.tag) (.slice ab nb cb) (.slice al2 nl2 cl2) 45; rw [HS3.out] at h9; exact h9) (by intro u hu; simp at hu; rcases hu with rfl | rfl | rfl <;> rfl) (by have := HY63.out; unfold maxLen; omega) (by have := HY63.out; omega) (by have := HBW3.out.size; simp; omega) ?_
                     intro v' w5 own5 hgrow _ hat
                     obtain ⟨a5, n5, c5, rfl⟩ := owns_slice own5
                     have qB5 : Trip w5 B 45 (.int .i64 48) (.slice none 0 0) (.slice al nl cl) := (hgrow.block B (by have := HQB3.out.lt; simp; omega) (fun e => by have := (own_at HO.out e.symm).1; omega)).trans (HQB3.out.alloc _)
                     have f5 := qB5.free 2
                     have x5 := qB5.cell2)
                  | fail)
                obtain ⟨s1, s2, s3, s4⟩ := seq_step HD.out HO.out HCe.out HBw.out (HBW3.out.alloc HBW3.out.size _) (by rw [hP]; exact HY4.out.kept (Keep.of_below ((Below.refl W3.heap.size W3).alloc (Nat.le_refl _) _) (Nat.le_refl _))) hgrow own5 hat
                refine ⟨⟨rfl, rfl, ys ++ [y], r', a9, c9, .slice a5 n5 c5, xs ++ [.int .i64 y.tag, .slice ab nb cb, .slice al2 nl2 cl2], rfl, HR3.out, s1, s2, s3, HMn2.out, HLe2.out, s4⟩, ?_⟩
                exact HLess.out
        have h48' : (t != 48) = true := by simpa using h48
        have hKF := HKF.out
        rw [HF5.out] at hKF
        have h5 := H5.out
        rw [HF5.out] at h5
        have hC := hKF _ _ U RI2.out (by rw [HIL.out]; omega)
        have hr1 := HG2.out
        rw [if_neg h48] at hr1
        obtain ⟨M, hM⟩ : ∃ M, Dm.mayB t ((b1.drop k).take m) = M := ⟨_, rfl⟩
        rw [hM] at hC hr1
        have HR1 := Lib.hid hr1
        clear hr1 hKF hM
        rcases h5 with rfl | rfl | rfl | rfl | rfl
        all_goals
          cases M with
          | false =>
            have hr : R = .error 71 := by rw [HR1.out]; exact if_neg (by decide)
            have HE := Lib.hid hr
            clear hr
            go_wp2_with fail
            refine hC.mono ?_; rintro e w' ⟨rfl, rfl⟩
            clear hC
            have f0 := qU.free 0; have f1 := qU.free 1; have f2 := qU.free 2; have x0 := qU.cell0; have x1 := qU.cell1; have x2 := qU.cell2; have xl := qU.lt
            go_wp2_with fail
            have hzz := zero3 qU (.int .i64 0) (.slice none 0 0) (.slice none 0 0)
            refine bodyPost_ret (item_ret rfl rfl hzz) rfl ?_
            exact ⟨by rw [HE.out]; rfl, below3 hBU WB.out _ _ _⟩
          | true =>
            have hr : R = .ok (.mk t ((b1.drop k).take m) [], (b1.drop k).drop m) := by rw [HR1.out]; exact if_pos rfl
            have HE := Lib.hid hr
            clear hr
            have hCl := Clone8_any _ _ U RI2.out (by rw [HIL.out]; omega)
            go_wp2_with fail
            refine hC.mono ?_; rintro e w' ⟨rfl, rfl⟩
            clear hC
            go_wp2_with fail
            refine hCl.mono ?_; rintro e w4 ⟨r, rfl, own, hb⟩
            have q4 := trip_stp qU hb
            have hB4 := hBU.trans (hb.mono (by have := qU.lt; omega))
            have rr := Row.of_bytes own (fun z hz => RI2.out.all_byte z hz)
            obtain ⟨ar, cr, rfl⟩ := rr.shape m HIL.out
            have blk := OwnB.blk own
            have rrest := RR2.out.below hb
            have RR4 := Lib.hid rr; have RS4 := Lib.hid rrest; have BK := Lib.hid blk
            have ltU := qU.lt
            clear hCl own rr rrest blk hb y0 y1 y2 qU
            have f0 := q4.free 0; have f1 := q4.free 1; have f2 := q4.free 2; have x0 := q4.cell0; have x1 := q4.cell1; have x2 := q4.cell2; have xl := q4.lt
            have hoff := RR4.out.off_trip q4; have hofs := RS4.out.off_trip q4
            have HO1 := Lib.hid hoff; have HO2 := Lib.hid hofs
            clear hoff hofs
            go_wp2_with fail
            have hq := zero3 (q4.set1 (.slice ar m cr)) (.int .i64 t) (.slice ar m cr) (.slice none 0 0)
            refine bodyPost_ret (item_ret rfl rfl hq) rfl ?_
            rw [HE.out]
            have hwt : (Lit.int .i64 t).wf = true := by simp [Lit.wf, IntKind.min, IntKind.max, IntKind.bits, IntKind.signed]; omega
            have e1 : (Dm.It.mk t ((b1.drop k).take m) []).b.length = m := HIL.out
            have e2 : ((b1.drop k).drop m).length = N0 - m := by have := HRL.out; have := HN0.out; omega
            refine ⟨⟨ar, cr, none, 0, some ⟨b, A0 + m, none⟩, C0 - m, ?_, ?_, ?_⟩, bel3 (hB4.setCell (Nat.le_refl _) _) (Nat.le_refl _) _ _ _⟩
            · rw [e1, e2]; rfl
            · refine Own.bytes hwt (by rw [e1]; exact (RR4.out.aside (p := ⟨B, 1, none⟩) HO1.out _).aside3 HO1.out _ _ _) ?_
              rintro bb oo nn cc e0 h0
              cases e0
              have := BK.out bb rfl; omega
            · intro V8 hV8
              rw [e2]; exact row_len (by omega) (RRV.out V8 hV8)
end Go.Proofs.YtfdchdnkblmijaaGreatDoor
