/-
  Walks over package sign: bytes, some, Secret, Public, Challenge, Sign, Check.
-/
import Derived.Test.YtlaidjgdipacgaaGreatDoorWz
import Derived.Test.YtlaidjgdipacgaaGreatDoorYy
import Derived.Test.YtlaidjgdipacgaaGreatDoorRs
import Derived.Deep.RegionHeld3
import Derived.Deep.CutBlock
namespace Go.Proofs.YtlaidjgdipacgaaGreatDoor
open Go.RowKit

namespace Gm
def hnum (tag : List Int) (ps : List (List Int)) (m : Int) : Int := Sm.num (Hm.sum (Sm.tagged tag ps)).a (Hm.sum (Sm.tagged tag ps)).b m
def some (tag : List Int) (ps : List (List Int)) : Int := hnum tag ps (R - 1) + 1
def tSecret : List Int := [115, 101, 99, 114, 101, 116]
def tNonce : List Int := [110, 111, 110, 99, 101]
def tSign : List Int := [115, 105, 103, 110]
def secret (seed : List Int) : Int := some tSecret [seed]
def nonce (x : Int) (msg : List Int) : Int := some tNonce [Hm.be 8 x, msg]
def chall (c p : Int) (msg : List Int) : Int := hnum tSign [Hm.be 8 c, Hm.be 8 p, msg] R
def sigE (x : Int) (msg : List Int) : Int := chall (base (nonce x msg)) (base x) msg
def sigS (x : Int) (msg : List Int) : Int := add R (mul R (sigE x msg) x) (nonce x msg)
theorem num_rng (a b : Int) {m : Int} (hm : 0 < m) : 0 ≤ Sm.num a b m ∧ Sm.num a b m < m := ⟨Int.emod_nonneg _ (by omega), Int.emod_lt_of_pos _ hm⟩
theorem some_rng (tag : List Int) (ps : List (List Int)) : 1 ≤ some tag ps ∧ some tag ps < R := by
  have := num_rng (Hm.sum (Sm.tagged tag ps)).a (Hm.sum (Sm.tagged tag ps)).b (show 0 < R - 1 by decide)
  unfold some hnum
  omega
theorem hnum_rng (tag : List Int) (ps : List (List Int)) : 0 ≤ hnum tag ps R ∧ hnum tag ps R < R := num_rng _ _ (by decide)
end Gm

set_option maxRecDepth 100000 in
set_option maxHeartbeats 2000000 in
theorem sbytes_any (n : Int) (w : World) (h0 : 0 ≤ n) (h1 : n < 18446744073709551616) :
    Calls Tryz.prog 28 #[.int .u64 n] w fun e w' => (∃ v, e = .returned v ∧ Row .u8 w' v (Hm.be 8 n)) ∧ Below w.heap.size w w' := by
  go_enter Tryz.func28, Tryz.ntmps28
  go_wp2_with fail
  refine wp_loop_rounds 9 ?_
  rw [rounds_succ]
  go_wp2_with fail
  rw [rounds_succ]
  go_wp2_with fail
  rw [rounds_succ]
  go_wp2_with fail
  rw [rounds_succ]
  go_wp2_with fail
  rw [rounds_succ]
  go_wp2_with fail
  rw [rounds_succ]
  go_wp2_with fail
  rw [rounds_succ]
  go_wp2_with fail
  rw [rounds_succ]
  go_wp2_with fail
  rw [rounds_succ]
  go_wp2_with fail
  go_ret
  have e : [n / 72057594037927936, n / 281474976710656 % 256, n / 1099511627776 % 256, n / 4294967296 % 256, n / 16777216 % 256, n / 65536 % 256, n / 256 % 256, n % 256] = Hm.be 8 n := by
    simp [Hm.be]
    omega
  have r := Row.lit .u8 w 80 _ (by rw [Hm.be_length]; unfold maxLen; omega) (fun x hx => byte_wf_of (Hm.be_byte 8 n x hx))
  rw [Hm.be_length] at r
  rw [← e] at r ⊢
  exact ⟨⟨_, rfl, r⟩, (Below.refl _ _).alloc (Nat.le_refl _) _⟩
theorem some_any (s : ByteArray) (T : List Int) (hT : Lib.strCells s = T.map (Value.int .u8)) (hs : s.size = T.length) (hTb : ∀ y ∈ T, byte y) (hTl : T.length ≤ 20) (vp : Value) (ps : List (List Int)) (w : World) (h : Rws .u8 w vp ps) (hp : ∀ i, i < ps.length → (ps[i]?.getD []).length ≤ 10000) (hn : ps.length ≤ 50) :
    Calls Tryz.prog 27 #[.string s, vp] w fun e w' => e = .returned (.int .u64 (Gm.some T ps)) ∧ Below w.heap.size w w' := by
  have C := Tagged_any s T hT hs hTb hTl vp ps w h hp hn
  have hok := Hm.sum_ok (Sm.tagged T ps)
  have hr := Gm.some_rng T ps
  unfold Gm.some Gm.hnum at hr ⊢
  obtain ⟨S, hS⟩ : ∃ S, Hm.sum (Sm.tagged T ps) = S := ⟨_, rfl⟩
  rw [hS] at C hok hr ⊢
  obtain ⟨⟨ra0, ra1⟩, ⟨rb0, rb1⟩, -⟩ := hok
  unfold Fm.P at ra1 rb1
  have N := fun W => Num_R1 S.a S.b W ra0 (by omega) rb0 (by omega)
  have hR : Gm.R = 1152921504606845789 := rfl
  rw [show Gm.R - 1 = 1152921504606845788 from rfl] at hr ⊢
  rw [hR] at hr
  obtain ⟨z, hz⟩ : ∃ z, Sm.num S.a S.b 1152921504606845788 = z := ⟨_, rfl⟩
  rw [hz] at N hr ⊢
  have e1 : IntKind.u64.wrap (z + 1) = z + 1 := by rw [IntKind.wrap_u64]; omega
  clear h hT hs hTb hTl hp hn hS hz
  go_enter Tryz.func27, Tryz.ntmps27
  go_wp2_with fail
  refine C.mono ?_; rintro e w1 ⟨rfl, hb1⟩
  go_wp2_with fail
  refine (N _).mono ?_; rintro e w2 ⟨rfl, hb2⟩
  go_wp2_with fail
  go_ret
  exact ⟨rfl, hb1.trans (hb2.mono hb1.size)⟩
theorem Rws.of1 {w : World} {v : Value} {l : List Int} (h : Row .u8 w v l) (t : TypeId) : Rws .u8 (w.alloc (.cells #[v] t)) (.slice (some ⟨w.heap.size, 0, none⟩) 1 1) [l] :=
  Rws.lit .u8 w t [v] [l] rfl (by unfold maxLen; simp) (fun i hi => by
    match i, hi with
    | 0, _ => exact h)
theorem Rws.of2 {w : World} {v1 v2 : Value} {l1 l2 : List Int} (h1 : Row .u8 w v1 l1) (h2 : Row .u8 w v2 l2) (t : TypeId) : Rws .u8 (w.alloc (.cells #[v1, v2] t)) (.slice (some ⟨w.heap.size, 0, none⟩) 2 2) [l1, l2] :=
  Rws.lit .u8 w t [v1, v2] [l1, l2] rfl (by unfold maxLen; simp) (fun i hi => by
    match i, hi with
    | 0, _ => exact h1
    | 1, _ => exact h2)
theorem Rws.of3 {w : World} {v1 v2 v3 : Value} {l1 l2 l3 : List Int} (h1 : Row .u8 w v1 l1) (h2 : Row .u8 w v2 l2) (h3 : Row .u8 w v3 l3) (t : TypeId) : Rws .u8 (w.alloc (.cells #[v1, v2, v3] t)) (.slice (some ⟨w.heap.size, 0, none⟩) 3 3) [l1, l2, l3] :=
  Rws.lit .u8 w t [v1, v2, v3] [l1, l2, l3] rfl (by unfold maxLen; simp) (fun i hi => by
    match i, hi with
    | 0, _ => exact h1
    | 1, _ => exact h2
    | 2, _ => exact h3)
theorem tag_secret : Lib.strCells { data := #[115, 101, 99, 114, 101, 116] } = Gm.tSecret.map (Value.int .u8) := by kernel_rfl
theorem tag_nonce : Lib.strCells { data := #[110, 111, 110, 99, 101] } = Gm.tNonce.map (Value.int .u8) := by kernel_rfl
theorem tag_sign : Lib.strCells { data := #[115, 105, 103, 110] } = Gm.tSign.map (Value.int .u8) := by kernel_rfl
theorem bytes_of_all {l : List Int} (h : (l.all fun x => decide (0 ≤ x) && decide (x ≤ 255)) = true) : ∀ y ∈ l, byte y := fun y hy => by
  have := List.all_eq_true.1 h y hy
  simp at this
  exact ⟨this.1, this.2⟩

set_option maxRecDepth 100000 in
set_option maxHeartbeats 1000000 in
theorem Secret_any (v : Value) (l : List Int) (w : World) (h : Row .u8 w v l) (hl : l.length ≤ 10000) :
    Calls Tryz.prog 11 #[v] w fun e w' => e = .returned (.int .u64 (Gm.secret l)) ∧ Below w.heap.size w w' := by
  obtain ⟨n, hn⟩ : ∃ n, l.length = n := ⟨_, rfl⟩
  obtain ⟨a, c, rfl⟩ := h.shape n hn
  have hR := Rws.of1 h 22
  have C := some_any _ Gm.tSecret tag_secret rfl (bytes_of_all (by decide)) (by decide) _ [l] _ hR (fun i hi => by
    match i, hi with
    | 0, _ => simpa using hl) (by simp)
  have hb0 := (Below.refl w.heap.size w).alloc (Nat.le_refl _) (.cells #[.slice a n c] 22)
  rw [show Gm.some Gm.tSecret [l] = Gm.secret l from rfl] at C
  obtain ⟨z, hz⟩ : ∃ z, Gm.secret l = z := ⟨_, rfl⟩
  rw [hz] at C ⊢
  clear hR h hl hn hz
  go_enter Tryz.func11, Tryz.ntmps11
  go_wp2_with fail
  refine C.mono ?_; rintro e w1 ⟨rfl, hb1⟩
  go_wp2_with fail
  go_ret
  exact ⟨rfl, hb0.trans (hb1.mono hb0.size)⟩

theorem odd_no (x : Int) (w : World) (h0 : 0 < x) (h1 : x < Gm.R) : Calls Tryz.prog 25 #[.int .u64 x] w fun e w' => e = .returned (.bool false) ∧ w' = w := by
  have hR : Gm.R = 1152921504606845789 := rfl
  rw [hR] at h1
  have n0 : (x == 0) = false := by simp; omega
  have n1 : ¬ 1152921504606845789 ≤ x := by omega
  go_enter Tryz.func25, Tryz.ntmps25
  go_wp2
  go_ret
  exact ⟨rfl, rfl⟩
theorem SPublic_yes (x : Int) (w : World) (h0 : 0 < x) (h1 : x < Gm.R) : Calls Tryz.prog 7 #[.int .u64 x] w fun e w' => e = .returned (.tuple #[.int .u64 (Gm.base x), .int .i64 0]) ∧ Below w.heap.size w w' := by
  have hR : Gm.R = 1152921504606845789 := rfl
  have O := odd_no x w h0 h1
  rw [hR] at h1
  have S := fun W => Base_any x W (by omega) (by omega)
  obtain ⟨z, hz⟩ : ∃ z, Gm.base x = z := ⟨_, rfl⟩
  rw [hz] at S ⊢
  clear hz
  go_enter Tryz.func7, Tryz.ntmps7
  go_wp2_with fail
  refine O.mono ?_; rintro e w1 ⟨rfl, rfl⟩
  go_wp2_with fail
  refine (S _).mono ?_; rintro e w1 ⟨rfl, hb⟩
  go_wp2_with fail
  go_ret2
  exact ⟨rfl, hb⟩

set_option maxRecDepth 100000 in
set_option maxHeartbeats 1000000 in
theorem Challenge_any (c p : Int) (v : Value) (msg : List Int) (w : World) (c0 : 0 ≤ c) (c1 : c < 18446744073709551616) (p0 : 0 ≤ p) (p1 : p < 18446744073709551616) (h : Row .u8 w v msg) (hl : msg.length ≤ 10000) :
    Calls Tryz.prog 29 #[.int .u64 c, .int .u64 p, v] w fun e w' => e = .returned (.int .u64 (Gm.chall c p msg)) ∧ Below w.heap.size w w' := by
  obtain ⟨n, hn⟩ : ∃ n, msg.length = n := ⟨_, rfl⟩
  obtain ⟨a, k, rfl⟩ := h.shape n hn
  have S1 := fun W => sbytes_any c W c0 c1
  have S2 := fun W => sbytes_any p W p0 p1
  have hok := Hm.sum_ok (Sm.tagged Gm.tSign [Hm.be 8 c, Hm.be 8 p, msg])
  have HM := Lib.hid h
  have HL := Lib.hid hl
  obtain ⟨z, hz⟩ : ∃ z, Gm.chall c p msg = z := ⟨_, rfl⟩
  have HZ := Lib.hid hz
  have HOk := Lib.hid hok
  rw [hz]
  clear hz h hl hn hok c0 c1 p0 p1
  go_enter Tryz.func29, Tryz.ntmps29
  go_wp2_with fail
  refine (S1 _).mono ?_; rintro e w1 ⟨⟨v1, rfl, r1⟩, hb1⟩
  obtain ⟨a1, k1, rfl⟩ := r1.shape 8 (Hm.be_length _ _)
  go_wp2_with fail
  refine (S2 _).mono ?_; rintro e w2 ⟨⟨v2, rfl, r2⟩, hb2⟩
  obtain ⟨a2, k2, rfl⟩ := r2.shape 8 (Hm.be_length _ _)
  have hb12 : Below w.heap.size w w2 := hb1.trans (hb2.mono hb1.size)
  have hR := Rws.of3 (r1.below hb2) r2 (HM.out.below hb12) 22
  have C := Tagged_any _ Gm.tSign tag_sign rfl (bytes_of_all (by decide)) (by decide) _ [Hm.be 8 c, Hm.be 8 p, msg] _ hR (fun i hi => by
    match i, hi with
    | 0, _ => simp [Hm.be_length]
    | 1, _ => simp [Hm.be_length]
    | 2, _ => simpa using HL.out) (by simp)
  obtain ⟨S, hS⟩ : ∃ S, Hm.sum (Sm.tagged Gm.tSign [Hm.be 8 c, Hm.be 8 p, msg]) = S := ⟨_, rfl⟩
  have hok := HOk.out
  have hz := HZ.out
  unfold Gm.chall Gm.hnum at hz
  rw [hS] at C hok hz
  obtain ⟨⟨ra0, ra1⟩, ⟨rb0, rb1⟩, -⟩ := hok
  unfold Fm.P at ra1 rb1
  have N := fun W => Num_R S.a S.b W ra0 (by omega) rb0 (by omega)
  rw [show Sm.num S.a S.b 1152921504606845789 = z from hz] at N
  have hb0 := hb12.alloc hb12.size (.cells #[.slice a1 8 k1, .slice a2 8 k2, .slice a n k] 22)
  clear hR hS hz ra0 ra1 rb0 rb1 S1 S2 r1 r2
  go_wp2_with fail
  refine C.mono ?_; rintro e w3 ⟨rfl, hb3⟩
  go_wp2_with fail
  refine (N _).mono ?_; rintro e w4 ⟨rfl, hb4⟩
  go_wp2_with fail
  go_ret
  have q := hb0.trans (hb3.mono hb0.size)
  exact ⟨rfl, q.trans (hb4.mono q.size)⟩

theorem sig_ret {tmps : Array Value} {W : World} {C : Nat} {fn : Func} {p q : Tmp} (hr : fn.results = #[.cell p 36, .tmp q]) (hp : tmps.getD p undef = .pointer (some ⟨C, 0, none⟩)) {x y z : Value} (hq : tmps.getD q undef = z)
    (hd : Duo W C 36 x y) : (results fn tmps).run Tryz.prog W = .ok (.tuple #[.agg #[x, y], z]) W := by
  rw [← hq]
  exact results_cell_tmp hr _ _ C _ _ _ _ hp hd Tryz.underlying36 rfl (by kernel_rfl)
set_option maxRecDepth 100000 in
set_option maxHeartbeats 2000000 in
theorem Sign_yes (x : Int) (v : Value) (msg : List Int) (w : World) (x0 : 0 < x) (x1 : x < Gm.R) (h : Row .u8 w v msg) (hl : msg.length ≤ 10000) :
    Calls Tryz.prog 8 #[.int .u64 x, v] w fun e w' => e = .returned (.tuple #[.agg #[.int .u64 (Gm.sigE x msg), .int .u64 (Gm.sigS x msg)], .int .i64 0]) ∧ Below w.heap.size w w' := by
  obtain ⟨n, hn⟩ : ∃ n, msg.length = n := ⟨_, rfl⟩
  obtain ⟨a, k, rfl⟩ := h.shape n hn
  obtain ⟨B, hB⟩ : ∃ B, w.heap.size = B := ⟨_, rfl⟩
  have hR : Gm.R = 1152921504606845789 := rfl
  have hQ : Gm.Q = 2305843009213691579 := rfl
  have P := fun W => SPublic_yes x W x0 x1
  have d0 := Duo.new w 36 (.int .u64 0) (.int .u64 0)
  have hb0 := (Below.refl w.heap.size w).alloc (Nat.le_refl _) (.cells #[.int .u64 0, .int .u64 0] 36)
  rw [hB] at d0
  obtain ⟨W, hW⟩ : ∃ W, w.alloc (.cells #[.int .u64 0, .int .u64 0] 36) = W := ⟨_, rfl⟩
  rw [hW] at d0 hb0
  have hM := h.below hb0
  have bR := Gm.base_rng x
  have nr := Gm.some_rng Gm.tNonce [Hm.be 8 x, msg]
  rw [show Gm.some Gm.tNonce [Hm.be 8 x, msg] = Gm.nonce x msg from rfl] at nr
  obtain ⟨p, hp⟩ : ∃ p, Gm.base x = p := ⟨_, rfl⟩
  obtain ⟨y, hy⟩ : ∃ y, Gm.nonce x msg = y := ⟨_, rfl⟩
  have gR := Gm.base_rng y
  have GB := fun W => Base_any y W (by omega) (by omega)
  obtain ⟨g, hg⟩ : ∃ g, Gm.base y = g := ⟨_, rfl⟩
  have er := Gm.hnum_rng Gm.tSign [Hm.be 8 g, Hm.be 8 p, msg]
  rw [show Gm.hnum Gm.tSign [Hm.be 8 g, Hm.be 8 p, msg] Gm.R = Gm.chall g p msg from rfl] at er
  have hE0 : Gm.chall g p msg = Gm.sigE x msg := by unfold Gm.sigE; rw [hy, hp, hg]
  rw [hE0] at er
  have hS0 : Gm.add Gm.R (Gm.mul Gm.R (Gm.sigE x msg) x) y = Gm.sigS x msg := by unfold Gm.sigS; rw [hy]
  obtain ⟨E, hE⟩ : ∃ E, Gm.sigE x msg = E := ⟨_, rfl⟩
  obtain ⟨s, hs⟩ : ∃ s, Gm.sigS x msg = s := ⟨_, rfl⟩
  rw [hE] at hE0 er hS0
  rw [hs] at hS0
  have GM := fun W => GMulR_any E x W (by omega) (by omega) (by omega) (by omega)
  have mr := Gm.rng Gm.R_pos (E * x)
  rw [show E * x % Gm.R = Gm.mul Gm.R E x from rfl] at mr
  obtain ⟨q, hq⟩ : ∃ q, Gm.mul Gm.R E x = q := ⟨_, rfl⟩
  rw [hq] at GM mr hS0
  have GA := fun W => GAddR_any q y W (by omega) (by omega) (by omega) (by omega)
  rw [hS0] at GA
  rw [hp] at P bR
  rw [hg] at GB gR
  have S1 := fun W => sbytes_any x W (by omega) (by omega)
  have HC : ∀ W', Row .u8 W' (.slice a n k) msg → Calls Tryz.prog 29 #[.int .u64 g, .int .u64 p, .slice a n k] W' fun e w' => e = .returned (.int .u64 E) ∧ Below W'.heap.size W' w' := fun W' hr => by
    have := Challenge_any g p (.slice a n k) msg W' (by omega) (by omega) (by omega) (by omega) hr hl
    rw [hE0] at this
    exact this
  rw [hE, hs]
  have HM := Lib.hid hM; have HL := Lib.hid hl; have HB0 := Lib.hid hb0; have D0 := Lib.hid d0; have HW := Lib.hid hW; have HB := Lib.hid hB; have HY := Lib.hid hy; have HHC := Lib.hid HC
  clear hM hl hb0 d0 hW hB hy HC hE hs hE0 hS0 h hn hq hg hp er nr bR gR mr hR hQ x0 x1
  go_enter Tryz.func8, Tryz.ntmps8
  go_wp2_with fail
  rw [HW.out, HB.out]
  (try go_wp2_with fail)
  refine (P _).mono ?_; rintro e w1 ⟨rfl, hb1⟩
  clear P
  go_wp2_with fail
  refine (S1 _).mono ?_; rintro e w2 ⟨⟨v2, rfl, r2⟩, hb2⟩
  obtain ⟨a2, k2, rfl⟩ := r2.shape 8 (Hm.be_length _ _)
  have hbW2 := hb1.trans (hb2.mono hb1.size)
  have hR2 := Rws.of2 r2 (HM.out.below hbW2) 22
  have C := some_any _ Gm.tNonce tag_nonce rfl (bytes_of_all (by decide)) (by decide) _ [Hm.be 8 x, msg] _ hR2 (fun i hi => by
    match i, hi with
    | 0, _ => simp [Hm.be_length]
    | 1, _ => simpa using HL.out) (by simp)
  rw [show Gm.some Gm.tNonce [Hm.be 8 x, msg] = y from HY.out] at C
  have hb2' := hbW2.alloc hbW2.size (.cells #[.slice a2 8 k2, .slice a n k] 22)
  clear S1 r2 hR2 hb1 hb2 hbW2
  go_wp2_with fail
  refine C.mono ?_; rintro e w3 ⟨rfl, hb3⟩
  have hb3' := hb2'.trans (hb3.mono hb2'.size)
  clear C hb3 hb2'
  go_wp2_with fail
  refine (GB _).mono ?_; rintro e w4 ⟨rfl, hb4⟩
  have hb4' := hb3'.trans (hb4.mono hb3'.size)
  clear GB hb4 hb3'
  go_wp2_with fail
  refine (HHC.out _ (HM.out.below hb4')).mono ?_; rintro e w5 ⟨rfl, hb5⟩
  have hb5' := hb4'.trans (hb5.mono hb4'.size)
  clear hb5 hb4'
  go_wp2_with fail
  refine (GM _).mono ?_; rintro e w6 ⟨rfl, hb6⟩
  have hb6' := hb5'.trans (hb6.mono hb5'.size)
  clear GM hb6 hb5'
  go_wp2_with fail
  refine (GA _).mono ?_; rintro e w7 ⟨rfl, hb7⟩
  have hb7' := hb6'.trans (hb7.mono hb6'.size)
  clear GA hb7 hb6'
  have d7 := D0.out.stp hb7'
  have c0 := d7.cell0; have c1 := d7.cell1; have lt := d7.lt
  have f0 := d7.free 0; have f1 := d7.free 1
  have D7 := Lib.hid d7
  go_wp2_with fail
  have hz := (D7.out.set0 (.int .u64 E)).set1 (.int .u64 s)
  refine bodyPost_ret (sig_ret rfl rfl rfl hz) rfl ⟨rfl, ?_⟩
  have q1 := HB0.out.trans (hb7'.mono HB0.out.size)
  exact (q1.setCell (by rw [HB.out]; exact Nat.le_refl _) _).setCell (by rw [HB.out]; exact Nat.le_refl _) _

set_option maxRecDepth 100000 in
set_option maxHeartbeats 2000000 in
theorem SCheck_yes (x : Int) (v : Value) (msg : List Int) (w : World) (x0 : 0 < x) (_x1 : x < Gm.R) (h : Row .u8 w v msg) (hl : msg.length ≤ 10000) :
    Calls Tryz.prog 9 #[.int .u64 (Gm.base x), v, .agg #[.int .u64 (Gm.sigE x msg), .int .u64 (Gm.sigS x msg)]] w fun e w' => e = .returned (.int .i64 0) ∧ Below w.heap.size w w' := by
  obtain ⟨n, hn⟩ : ∃ n, msg.length = n := ⟨_, rfl⟩
  obtain ⟨a, k, rfl⟩ := h.shape n hn
  obtain ⟨B, hB⟩ : ∃ B, w.heap.size = B := ⟨_, rfl⟩
  have hR : Gm.R = 1152921504606845789 := rfl
  have hQ : Gm.Q = 2305843009213691579 := rfl
  have hin := Gm.base_in x
  have nr := Gm.some_rng Gm.tNonce [Hm.be 8 x, msg]
  rw [show Gm.some Gm.tNonce [Hm.be 8 x, msg] = Gm.nonce x msg from rfl] at nr
  have er := Gm.hnum_rng Gm.tSign [Hm.be 8 (Gm.base (Gm.nonce x msg)), Hm.be 8 (Gm.base x), msg]
  rw [show Gm.hnum Gm.tSign [Hm.be 8 (Gm.base (Gm.nonce x msg)), Hm.be 8 (Gm.base x), msg] Gm.R = Gm.sigE x msg from rfl] at er
  have sr := Gm.rng Gm.R_pos (Gm.mul Gm.R (Gm.sigE x msg) x + Gm.nonce x msg)
  rw [show (Gm.mul Gm.R (Gm.sigE x msg) x + Gm.nonce x msg) % Gm.R = Gm.sigS x msg from rfl] at sr
  have hch : Gm.chall (Gm.base (Gm.nonce x msg)) (Gm.base x) msg = Gm.sigE x msg := rfl
  have hbk : ∀ off, Gm.mul Gm.Q off (Gm.pow Gm.Q (Gm.base x) (Gm.sigE x msg).toNat) = 1 → Gm.mul Gm.Q (Gm.base (Gm.sigS x msg)) off = Gm.base (Gm.nonce x msg) := fun off ho => Gm.sig_back (by omega) (by omega) (by omega) ho
  obtain ⟨yi, hyi⟩ := Gm.inv_of_in hin.2.2 (Gm.sigE x msg).toNat
  have gr := Gm.base_rng (Gm.nonce x msg)
  have sbr := Gm.base_rng (Gm.sigS x msg)
  have pwr := Gm.rng Gm.Q_pos (Gm.base x ^ (Gm.sigE x msg).toNat)
  rw [show Gm.base x ^ (Gm.sigE x msg).toNat % Gm.Q = Gm.pow Gm.Q (Gm.base x) (Gm.sigE x msg).toNat from rfl] at pwr
  obtain ⟨E, hE⟩ : ∃ E, Gm.sigE x msg = E := ⟨_, rfl⟩
  obtain ⟨s, hs⟩ : ∃ s, Gm.sigS x msg = s := ⟨_, rfl⟩
  obtain ⟨p, hp⟩ : ∃ p, Gm.base x = p := ⟨_, rfl⟩
  obtain ⟨g, hg⟩ : ∃ g, Gm.base (Gm.nonce x msg) = g := ⟨_, rfl⟩
  rw [hE, hp, hg] at hch
  rw [hE, hp, hs, hg] at hbk
  rw [hE, hp] at hyi pwr
  rw [hE] at er
  rw [hs] at sr sbr
  rw [hp] at hin
  rw [hg] at gr
  rw [hE, hp, hs]
  obtain ⟨b, hb⟩ : ∃ b, Gm.base s = b := ⟨_, rfl⟩
  obtain ⟨pw, hpw⟩ : ∃ b, Gm.pow Gm.Q p E.toNat = b := ⟨_, rfl⟩
  rw [hb] at sbr hbk
  rw [hpw] at hyi pwr hbk
  have CI := fun W => In_yes p W hin
  have CP := fun W => Pow_any p E W (by omega) (by omega) (by omega) (by omega)
  have CV := fun W => Inv_any pw yi W (by omega) (by omega) hyi
  have CB := fun W => Base_any s W (by omega) (by omega)
  rw [hpw] at CP
  rw [hb] at CB
  have CM : ∀ off W, 0 ≤ off → off < Gm.Q → Gm.mul Gm.Q off pw = 1 → Calls Tryz.prog 33 #[.int .u64 b, .int .u64 off] W fun e w' => e = .returned (.int .u64 g) ∧ Below W.heap.size W w' := fun off W o0 o1 ho => by
    have := GMul_any b off W (by omega) (by omega) (by omega) (by omega)
    rw [hbk off ho] at this
    exact this
  have CC : ∀ W', Row .u8 W' (.slice a n k) msg → Calls Tryz.prog 29 #[.int .u64 g, .int .u64 p, .slice a n k] W' fun e w' => e = .returned (.int .u64 E) ∧ Below W'.heap.size W' w' := fun W' hr => by
    have := Challenge_any g p (.slice a n k) msg W' (by omega) (by omega) (by omega) (by omega) hr hl
    rw [hch] at this
    exact this
  have d0 := Duo.new w 36 (.int .u64 E) (.int .u64 s)
  have hb0 := (Below.refl w.heap.size w).alloc (Nat.le_refl _) (.cells #[.int .u64 E, .int .u64 s] 36)
  rw [hB] at d0
  obtain ⟨W, hW⟩ : ∃ W, w.alloc (.cells #[.int .u64 E, .int .u64 s] 36) = W := ⟨_, rfl⟩
  rw [hW] at d0 hb0
  have hM := h.below hb0
  have eR : E < 1152921504606845789 := by omega
  have sR : s < 1152921504606845789 := by omega
  have hmx : ¬ 1152921504606845789 ≤ max E s := by omega
  have HM := Lib.hid hM; have HB0 := Lib.hid hb0; have D0 := Lib.hid d0; have HW := Lib.hid hW; have HB := Lib.hid hB; have HCC := Lib.hid CC; have HCM := Lib.hid CM
  clear hM hl hb0 d0 hW hB CC CM h hn hE hs hp hg hb hpw hyi pwr hbk gr sbr hin er sr nr hch hR hQ x0
  go_enter Tryz.func9, Tryz.ntmps9
  go_wp2_with fail
  rw [HW.out, HB.out]
  (try go_wp2_with fail)
  refine (CI _).mono ?_; rintro e w1 ⟨rfl, hb1⟩
  have d1 := D0.out.stp hb1
  have c0 := d1.cell0; have c1 := d1.cell1; have lt := d1.lt
  clear CI
  go_wp2_with fail
  refine (CP _).mono ?_; rintro e w2 ⟨rfl, hb2⟩
  have hb2' := hb1.trans (hb2.mono hb1.size)
  clear CP hb2 hb1 c0 c1 lt d1
  go_wp2_with fail
  refine (CV _).mono ?_; rintro e w3 ⟨⟨off, rfl, o0, o1, ho⟩, hb3⟩
  have hb3' := hb2'.trans (hb3.mono hb2'.size)
  have d3 := D0.out.stp hb3'
  have c0 := d3.cell0; have c1 := d3.cell1; have lt := d3.lt
  have HO := Lib.hid ho; have O0 := Lib.hid o0; have O1 := Lib.hid o1
  clear CV hb3 hb2' ho o0 o1 d3
  have H3 := Lib.hid hb3'
  clear hb3'
  go_upto_region 6 with fail
  go_region_held3 (fun w' => w'.cell? ⟨B, 0, none⟩ = some (.int .u64 E) ∧ w'.cell? ⟨B, 1, none⟩ = some (.int .u64 s)) (first | go_keep | (refine ⟨?_, ?_⟩ <;> assumption)) (first
    | (go_at_call 26; refine (CB _).mono ?_; rintro e w4 ⟨rfl, hb4⟩; have H4 := Lib.hid (H3.out.drew.trans (hb4.mono H3.out.size)); have d4 := D0.out.stp H4.out; have x0 := d4.cell0; have x1 := d4.cell1)
    | (go_at_call 33; refine (HCM.out off _ O0.out O1.out HO.out).mono ?_; rintro e w5 ⟨rfl, hb5⟩; have H5 := Lib.hid (H4.out.trans (hb5.mono H4.out.size)); have d5 := D0.out.stp H5.out; have y0 := d5.cell0; have y1 := d5.cell1)
    | (go_at_call 29; refine (HCC.out _ (HM.out.below H5.out)).mono ?_; rintro e w6 ⟨rfl, hb6⟩; have H6 := Lib.hid (H5.out.trans (hb6.mono H5.out.size)); have d6 := D0.out.stp H6.out; have z0 := d6.cell0; have z1 := d6.cell1)
    | fail)
  all_goals
    go_wp2_with fail
    go_ret
    exact ⟨rfl, HB0.out.trans (H6.out.mono HB0.out.size)⟩
end Go.Proofs.YtlaidjgdipacgaaGreatDoor
