/-
  The walk of DerOnly: what is got was put.
-/
import Derived.Test.YtpmiihmhfagfoaaDoorEi
namespace Go.Proofs.YtpmiihmhfagfoaaDoor
open Go.RowKit

mutual
theorem wt_len : ∀ x : Dm.It, Dm.wt x ≤ Dm.len x
  | .mk t b l => by
    unfold Dm.wt Dm.len
    have := wts_lens l
    have h1 := Dm.lenB_length (b.length + Dm.lens l)
    have : 1 ≤ (Dm.lenB (b.length + Dm.lens l)).length := by rw [h1]; split <;> (try split) <;> omega
    omega
theorem wts_lens : ∀ l : List Dm.It, Dm.wts l ≤ Dm.lens l
  | [] => by simp [Dm.wts]
  | x :: l => by
    unfold Dm.wts Dm.lens
    have := wt_len x
    have := wts_lens l
    omega
end
theorem getAt_fail {l : List Int} {p e : Int} (h : getAt l p = .error e) : e = 1 ∨ e = 70 ∨ e = 71 := by
  unfold getAt at h
  split at h
  · cases h; exact .inl rfl
  · split at h
    · next e' he => cases h; exact .inr (get_fail he)
    · cases h
theorem getAt_only {l : List Int} {p : Int} {x : Dm.It} {m : Nat} (hb : ∀ y ∈ l, byte y) (h : getAt l p = .ok (x, m)) :
    ∃ k : Nat, p = k ∧ k < m ∧ m ≤ l.length ∧ Dm.may 8 x = true ∧ Dm.len x ≤ 8192 ∧ Dm.bytes x = (l.drop k).take (m - k) ∧ m - k = Dm.len x := by
  unfold getAt at h
  split at h
  · cases h
  · next hp =>
    split at h
    · cases h
    · next y r hg =>
      cases h
      obtain ⟨k, rfl⟩ := Int.eq_ofNat_of_zero_le (show 0 ≤ p by omega)
      have hk : k ≤ l.length := by omega
      rw [Int.toNat_natCast] at hg
      obtain ⟨h1, h2, h3⟩ := Dm.get_only 8 (l.drop k) x r (fun y hy => by have := hb y (List.mem_of_mem_drop hy); unfold byte at this; exact ⟨this.1, by omega⟩) hg
      have hlen := congrArg List.length h2
      rw [List.length_append, Dm.bytes_len, List.length_drop] at hlen
      have hw := wt_len x
      rw [Dm.wt_eq] at hw
      have e : l.length - r.length - k = Dm.len x := by omega
      refine ⟨k, rfl, by omega, by omega, h1, h3, ?_, e⟩
      rw [e, ← h2, List.take_left' (Dm.bytes_len x)]

set_option maxRecDepth 100000 in
set_option maxHeartbeats 4000000 in
theorem DerOnly_any (v : Value) (l : List Int) (p : Int) (w : World) (hk : KindsAt w) (h : Row .u8 w v l) (_hp : (Lit.int .i64 p).wf = true) :
    Calls Tryd.prog 6 #[v, .int .i64 p] w fun e w' => e = .returned (.bool true) ∧ Below w.heap.size w w' := by
  obtain ⟨a, c, rfl⟩ := h.shape l.length rfl
  have hC1 := live07_true w hk
  by_cases h9 : (9000 : Int) < (l.length : Int)
  · clear hk h
    go_enter Tryd.func6, Tryd.ntmps6
    go_wp2_with fail
    refine hC1.mono ?_; rintro e w1 ⟨rfl, hb⟩
    clear hC1
    go_wp2_with fail
    go_ret
    exact ⟨rfl, hb⟩
  have hl : l.length ≤ 1000000 := by omega
  have HR := Lib.hid h; have HK := Lib.hid hk
  clear h hk
  go_enter Tryd.func6, Tryd.ntmps6
  go_wp2_with fail
  refine hC1.mono ?_; rintro e w1 ⟨rfl, hb⟩
  have hC2 := Get_any _ l p w1 (HK.out.below hb) (HR.out.below hb) hl
  have HB1 := Lib.hid hb
  clear hC1 hb
  go_wp2_with fail
  refine hC2.mono ?_; rintro e w2 ⟨hG, hb⟩
  have hB2 := HB1.out.trans (hb.mono HB1.out.size)
  have HB2 := Lib.hid hB2; have HB12 := Lib.hid hb
  clear hC2 hB2 hb
  match hg : getAt l p, hG with
  | .error cc, hG =>
    have hG' : e = .returned (.tuple #[noV, .int .i64 0, .int .i64 cc]) := hG
    subst hG'
    have hcc := getAt_fail hg
    clear hG hg
    have hB3 := HB2.out.alloc HB2.out.size (.cells #[.int .i64 0, .slice none 0 0, .slice none 0 0] 25)
    rcases hcc with rfl | rfl | rfl
    all_goals
      go_wp2_with fail
      go_ret
      exact ⟨rfl, hB3⟩
  | .ok (x, m), hG =>
    obtain ⟨ab, cb, al, cl, rfl, ho⟩ := hG
    obtain ⟨k, rfl, hkm, hml, hmay, h8, hby, hlen⟩ := getAt_only HR.out.all_byte hg
    have hk2 := (HK.out.below HB2.out).alloc (.cells #[.int .i64 x.tag, .slice ab x.b.length cb, .slice al x.l.length cl] 25)
    have hC3 := Put_any x (by have := wt_len x; omega) _ _ _ hk2 (ho.it.alloc (.cells #[.int .i64 x.tag, .slice ab x.b.length cb, .slice al x.l.length cl] 25))
    have hC4 : Calls Tryd.prog 14 #[.agg #[.int .i64 x.tag, .slice ab x.b.length cb, .slice al x.l.length cl]] (w2.alloc (.cells #[.int .i64 x.tag, .slice ab x.b.length cb, .slice al x.l.length cl] 25)) fun e w' => (∃ a c, e = .returned (.tuple #[.slice a (m - k) c, .int .i64 0]) ∧ Row .u8 w' (.slice a (m - k) c) ((l.drop k).take (m - k))) ∧ Below (w2.alloc (.cells #[.int .i64 x.tag, .slice ab x.b.length cb, .slice al x.l.length cl] 25)).heap.size (w2.alloc (.cells #[.int .i64 x.tag, .slice ab x.b.length cb, .slice al x.l.length cl] 25)) w' :=
      hC3.mono fun e w' ⟨hP, hb⟩ => by
        unfold Putted at hP
        rw [if_pos hmay, if_pos h8, hby, ← hlen] at hP
        obtain ⟨a, c, he, ho⟩ := hP
        exact ⟨⟨a, c, he, Row.of_bytes ho (fun z hz => HR.out.all_byte z (List.mem_of_mem_drop (List.mem_of_mem_take hz)))⟩, hb⟩
    have hB3 := HB2.out.alloc HB2.out.size (.cells #[.int .i64 x.tag, .slice ab x.b.length cb, .slice al x.l.length cl] 25)
    have HB3 := Lib.hid hB3
    clear hC3 hk2 ho hB3 hmay h8 hby hlen hg
    go_wp2_with fail
    refine hC4.mono ?_; rintro e w4 ⟨⟨a4, c4, rfl, r4⟩, hb⟩
    have hB4 := HB3.out.trans (hb.mono HB3.out.size)
    have r5 := HR.out.below hB4
    obtain ⟨b, off, rfl, hlt, -⟩ := r5.cellAt 0 (by omega)
    have hlc : l.length ≤ c := by obtain ⟨_, _, e', hc, _⟩ := r5; cases e'; exact hc
    have r6 := Row.take (Row.cut r5 k (by omega) (by omega)) (m - k) (by rw [List.length_drop]; omega)
    rw [Option.map_some, addr_add] at r6
    have kc1 := r4.convert
    have kc2 := r6.convert
    have kd1 := r4.drew.convert
    have kd2 := r6.drew.convert
    have HB4 := Lib.hid hB4
    clear hC4 r4 r5 r6 hB4 hb
    obtain ⟨n, hn⟩ : ∃ n, l.length = n := ⟨_, rfl⟩
    obtain ⟨S, hS⟩ : ∃ S, strOfNums ((l.drop k).take (m - k)) = S := ⟨_, rfl⟩
    rw [hS] at kc1 kc2 kd1 kd2
    rw [hn] at hml h9 hl hlc ⊢
    clear hn hS
    have g1 : (k : Int) < (m : Int) := by omega
    have g2 : (m : Int) ≤ (n : Int) := by omega
    have g3 : (0 : Int) ≤ (k : Int) := by omega
    have g4 : (k : Int) ≤ (m : Int) := by omega
    have g5 : (m : Int) ≤ (c : Int) := by omega
    have g6 : (0 : Int) ≤ (m : Int) := by omega
    go_wp2_with fail
    go_region
    all_goals
      go_wp2_with fail
      go_ret
      exact ⟨rfl, HB4.out.drew⟩
end Go.Proofs.YtpmiihmhfagfoaaDoor
