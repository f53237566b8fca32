/-
  slices.Chunk over bytes by seven, and the walk over field.Of, which ranges over it.
-/
import Derived.RegionIn
import Derived.BigRegionIn
import Derived.Sort.QuietTacIn
import Derived.Sort.BigQuietIn
import Derived.Test.YtlaidjgdipacgaaGreatDoorKb
import Derived.Test.YtlaidjgdipacgaaGreatDoorFg
namespace Go.Proofs.YtlaidjgdipacgaaGreatDoor
open Go.RowKit Go.Shelf

attribute [local go_sem] Oper.semAt_some

set_option maxHeartbeats 1000000 in
theorem chunk_in (F : Fence) (n : Nat) (hf : F.fn 133) (hro : F.round = none) (a : Option Addr) (len cap : Nat) (w : World) :
    CallsIn F n Tryz.prog 133 #[.slice a len cap, .int .i64 7] w fun e w' => e = .returned (.func (.func 158) #[] #[.pointer (some ⟨w.heap.size, 0, none⟩), .pointer (some ⟨w.heap.size + 1, 0, none⟩)]) ∧
      w' = (w.alloc (.cells #[.slice a len cap] 22)).alloc (.cells #[.int .i64 7] 3) := by
  refine callsIn_of_wp Tryz.func133 rfl hf ?_ hro
  simp only [Tryz.ntmps133, List.size_toArray, List.length_cons, List.length_nil, Nat.reduceAdd, Nat.reduceSub, Array.replicate_succ, Array.replicate_zero, List.push_toArray, List.append_toArray, List.nil_append, List.cons_append]
  gi_wp2
  go_ret
  exact ⟨rfl, rfl⟩

/-- Which seven: those of len bytes. -/
def Sev (len : Nat) : Type := { j : Nat // 7 * j < len }
def seventh (len j : Nat) : Nat := min 7 (len - 7 * j)

set_option maxRecDepth 100000 in
set_option maxHeartbeats 2000000 in
theorem chunk1_in (n : Nat) (hn : 1 ≤ n) (l Bs Bn n₀ b off len cap : Nat) (hlc : len ≤ cap) (hsmall : len ≤ 1000000) (J Jx : List (Sev len) → World → Prop)
    (hdr : ∀ pre W k, J pre W → J pre (W.drewN k))
    (hY : ∀ pre x W, J pre W → pre.length < (len + 6) / 7 → YieldAt Fence.wide (n - 1) Tryz.prog l #[.slice (some ⟨b, off + 7 * x.1, none⟩) (seventh len x.1) (seventh len x.1)] W fun e W' =>
      (e = .returned (.bool true) ∧ J (pre ++ [x]) W' ∧ KeepsBox n₀ Bs W W' ∧ KeepsBox n₀ Bn W W') ∨ (e = .returned (.bool false) ∧ Jx (pre ++ [x]) W'))
    (W : World) (hBs : W.cell? ⟨Bs, 0, none⟩ = some (.slice (some ⟨b, off, none⟩) len cap)) (hBn : W.cell? ⟨Bn, 0, none⟩ = some (.int .i64 7)) (h0 : J [] W) :
    CallsIn Fence.wide n Tryz.prog 158 #[.func (.yield l) #[] #[], .pointer (some ⟨Bs, 0, none⟩), .pointer (some ⟨Bn, 0, none⟩)] W fun e W' => (∃ v, e = .returned v) ∧
      ((∃ ys : List (Sev len), ys.map (·.1) = List.range ((len + 6) / 7) ∧ J ys W') ∨ (∃ pre, pre.map (·.1) = List.range pre.length ∧ Jx pre W')) := by
  refine callsIn_of_wp Tryz.func158 rfl trivial ?_ rfl
  simp only [Tryz.ntmps158, List.size_toArray, List.length_cons, List.length_nil, Nat.reduceAdd, Nat.reduceSub, Array.replicate_succ, Array.replicate_zero, List.push_toArray, List.append_toArray, List.nil_append, List.cons_append]
  gi_wp2
  gi_loopw [4] (fun i wr => ∃ k : Nat, k ≤ (len + 6) / 7 ∧ i = .int .i64 (7 * (k : Int)) ∧ (∃ pre : List (Sev len), pre.length = k ∧ pre.map (·.1) = List.range k ∧ J pre wr) ∧ KeepsBox n₀ Bs W wr ∧ KeepsBox n₀ Bn W wr)
    (fun i _ => len + 7 - (intOf i).toNat)
  case atStart => exact ⟨0, Nat.zero_le _, by go_num, ⟨[], rfl, rfl, h0⟩, KeepsBox.refl _ _ _, KeepsBox.refl _ _ _⟩
  case round =>
    obtain ⟨k, hk, rfl, ⟨pre, hpl, hpm, hJs⟩, hks, hkn⟩ := hrel
    have g1 := hks.2.trans hBs
    have g2 := hkn.2.trans hBn
    by_cases hlt : 7 * k < len
    · have hlen := hpl
      have Hm := Lib.hid hpm
      have HN := Lib.hid hpl
      clear hpl hpm hlen
      obtain ⟨m, hm⟩ : ∃ m, len - 7 * k = m := ⟨_, rfl⟩
      have hmr : 1 ≤ m ∧ 7 * k + m = len := by omega
      have Hmr := Lib.hid hmr
      have m1 : 1 ≤ m := hmr.1
      have m2 : 7 * k + m ≤ len := by omega
      clear hmr
      by_cases h7 : 7 ≤ m
      · have hsv : seventh len k = 7 := by unfold seventh; have := Hmr.out; omega
        have em : min (7 : Int) (m : Int) = 7 := by omega
        have HY := fun W => hY pre ⟨k, hlt⟩ W
        simp only [hsv] at HY
        have HS := Lib.hid hsv
        clear hsv
        gi_wp2_with fail
        gi_big_quiet_th (fail)
        obtain ⟨fn, tmps, assign, body, hy, hR⟩ := HY (wr.drewN nq) (hdr _ _ _ hJs) (by rw [HN.out]; omega)
        gi_wp2_with fail
        refine hR.mono ?_
        rintro e W3 (⟨rfl, hJ3, hk3, hn3⟩ | ⟨rfl, hJx3⟩)
        · have g3 := hn3.2.trans g2
          gi_wp2_with fail
          go_roundw
          case rel => exact ⟨k + 1, by omega, by go_num, ⟨pre ++ [⟨k, hlt⟩], by rw [List.length_append, HN.out]; rfl, by rw [List.map_append, Hm.out, List.range_succ]; rfl, hJ3⟩, (hks.drewN nq).trans hk3, (hkn.drewN nq).trans hn3⟩
          case measure => simp [intOf]; omega
        · gi_wp2_with fail
          refine bodyPost_ret (results_none rfl _ _ _) rfl ?_
          exact ⟨⟨_, rfl⟩, .inr ⟨pre ++ [⟨k, hlt⟩], by rw [List.map_append, Hm.out, List.length_append, HN.out]; exact List.range_succ.symm, hJx3⟩⟩
      · have hsv : seventh len k = m := by unfold seventh; have := Hmr.out; omega
        have em : min (7 : Int) (m : Int) = (m : Int) := by omega
        have HY := fun W => hY pre ⟨k, hlt⟩ W
        simp only [hsv] at HY
        have HS := Lib.hid hsv
        clear hsv
        gi_wp2_with fail
        gi_big_quiet_th (fail)
        obtain ⟨fn, tmps, assign, body, hy, hR⟩ := HY (wr.drewN nq) (hdr _ _ _ hJs) (by rw [HN.out]; omega)
        gi_wp2_with fail
        refine hR.mono ?_
        rintro e W3 (⟨rfl, hJ3, hk3, hn3⟩ | ⟨rfl, hJx3⟩)
        · have g3 := hn3.2.trans g2
          gi_wp2_with fail
          go_roundw
          case rel => exact ⟨k + 1, by omega, by go_num, ⟨pre ++ [⟨k, hlt⟩], by rw [List.length_append, HN.out]; rfl, by rw [List.map_append, Hm.out, List.range_succ]; rfl, hJ3⟩, (hks.drewN nq).trans hk3, (hkn.drewN nq).trans hn3⟩
          case measure => simp [intOf]; omega
        · gi_wp2_with fail
          refine bodyPost_ret (results_none rfl _ _ _) rfl ?_
          exact ⟨⟨_, rfl⟩, .inr ⟨pre ++ [⟨k, hlt⟩], by rw [List.map_append, Hm.out, List.length_append, HN.out]; exact List.range_succ.symm, hJx3⟩⟩
    · obtain rfl : k = (len + 6) / 7 := by omega
      gi_wp2
      go_end0
      exact ⟨⟨_, rfl⟩, .inl ⟨pre, hpm, hJs⟩⟩

set_option maxRecDepth 100000 in
set_option maxHeartbeats 1000000 in
theorem chunk1_nil_in (n : Nat) (l Bs Bn cap : Nat) (a : Option Addr) (J : World → Prop) (W : World) (hBs : W.cell? ⟨Bs, 0, none⟩ = some (.slice a 0 cap)) (h0 : J W) :
    CallsIn Fence.wide n Tryz.prog 158 #[.func (.yield l) #[] #[], .pointer (some ⟨Bs, 0, none⟩), .pointer (some ⟨Bn, 0, none⟩)] W fun e W' => (∃ v, e = .returned v) ∧ J W' := by
  refine callsIn_of_wp Tryz.func158 rfl trivial ?_ rfl
  simp only [Tryz.ntmps158, List.size_toArray, List.length_cons, List.length_nil, Nat.reduceAdd, Nat.reduceSub, Array.replicate_succ, Array.replicate_zero, List.push_toArray, List.append_toArray, List.nil_append, List.cons_append]
  gi_wp2
  gi_loopw [4] (fun i wr => i = .int .i64 0 ∧ wr.cell? ⟨Bs, 0, none⟩ = some (.slice a 0 cap) ∧ J wr) (fun _ _ => 0)
  case atStart => exact ⟨rfl, hBs, h0⟩
  case round =>
    obtain ⟨rfl, hc, hJs⟩ := hrel
    gi_wp2
    go_end0
    exact ⟨⟨_, rfl⟩, hJs⟩

/-- What a round keeps: what lies below n, and two boxes. -/
def KeepsTwo (n B C : Nat) (w w' : World) : Prop := KeepsBox n B w w' ∧ KeepsBox n C w w'
theorem KeepsTwo.trans {n B C : Nat} {a b c : World} (h : KeepsTwo n B C a b) (k : KeepsTwo n B C b c) : KeepsTwo n B C a c := ⟨h.1.trans k.1, h.2.trans k.2⟩
theorem KeepsTwo.b {n₀ B C : Nat} {w : World} (hn : n₀ ≤ w.heap.size) (hB : B < w.heap.size) (hC : C < w.heap.size) (W : World) (l : Nat) (o o' : Obj) (hl : w.heap.size ≤ l) (h : W.heap[l]? = some o) (h1 : o.isCells = false) (h2 : o.isWalk = false) : KeepsTwo n₀ B C W (W.putObj l o') :=
  ⟨KeepsBox.b hn hB W l o o' hl h h1 h2, KeepsBox.b hn hC W l o o' hl h h1 h2⟩

theorem grown_drewN (w : World) (k : Nat) : w.grownBy (w.drewN k) none := ⟨rfl, rfl, rfl, Nat.le_refl _, fun _ _ _ => rfl⟩

theorem chunk_stops (n : Nat) (hn : 1 ≤ n) (Bs Bn n₀ : Nat) (a : Option Addr) (cap len : Nat) (w : World) (hBs : Bs < w.heap.size) (hBn : Bn < w.heap.size) (hlc : len ≤ cap) (hsmall : len ≤ 1000000)
    (hc : w.cell? ⟨Bs, 0, none⟩ = some (.slice a len cap)) (hn7 : w.cell? ⟨Bn, 0, none⟩ = some (.int .i64 7)) (b off : Nat) (hbo : len ≠ 0 → a = some ⟨b, off, none⟩) :
    SeqStopsK Fence.wide n Tryz.prog 158 #[.pointer (some ⟨Bs, 0, none⟩), .pointer (some ⟨Bn, 0, none⟩)] (fun x : Sev len => #[Value.slice (some ⟨b, off + 7 * x.1, none⟩) (seventh len x.1) (seventh len x.1)]) (KeepsTwo n₀ Bs Bn)
      (fun ys => ys.map (·.1) = List.range ((len + 6) / 7)) (fun _ => True) ((len + 6) / 7) w := fun L J Jx W hW hJ _ hY hJ0 => by
  have hc' := (hW.cell (p := ⟨Bs, 0, none⟩) hBs).trans hc
  have hn' := (hW.cell (p := ⟨Bn, 0, none⟩) hBn).trans hn7
  by_cases h0 : len = 0
  · subst h0
    exact (chunk1_nil_in n L Bs Bn cap a (J []) W hc' hJ0).mono fun e W' ⟨he, hj⟩ => ⟨he, .inl ⟨[], rfl, hj⟩⟩
  · obtain rfl := hbo h0
    refine (chunk1_in n hn L Bs Bn n₀ b off len cap hlc hsmall J Jx (fun pre W1 k hj => hJ pre W1 _ none hj (grown_drewN W1 k) (fun r e => by cases e)) hY W hc' hn' hJ0).mono ?_
    rintro e W' ⟨he, ⟨ys, h1, h2⟩ | ⟨pre, _, h2⟩⟩
    · exact ⟨he, .inl ⟨ys, h1, h2⟩⟩
    · exact ⟨he, .inr ⟨pre, trivial, h2⟩⟩

set_option maxRecDepth 100000 in
set_option maxHeartbeats 2000000 in
theorem Of_own (v : Value) (l : List Int) (w : World) (h : Row .u8 w v l) (hlen : l.length ≤ 1000000) :
    Calls Tryz.prog 108 #[v] w fun e w' => ∃ r, e = .returned r ∧ Row .u64 w' r (elems l) ∧ (∀ g, r.ownBlock = some g → w.heap.size ≤ g) ∧ Below w.heap.size w w' := by
  obtain ⟨a1, c1, rfl, hl1, hc1, -, hw1, hr1⟩ := h
  have HB := Lib.hid (show ∀ x ∈ l, byte x from fun x hx => byte_wf (hw1 x hx))
  obtain ⟨b1, o1, hbo, hb1, hx1⟩ : ∃ b off, (l.length ≠ 0 → a1 = some ⟨b, off, none⟩) ∧ (l.length ≠ 0 → b < w.heap.size) ∧ ∀ i, i < l.length → w.cell? ⟨b, off + i, none⟩ = some (.int .u8 (l[i]?.getD 0)) := by
    by_cases hne : l = []
    · subst hne; exact ⟨0, 0, fun h => absurd rfl h, fun h => absurd rfl h, fun i hi => absurd hi (Nat.not_lt_zero _)⟩
    · obtain ⟨b, off, e, hb, hx⟩ := hr1 hne
      exact ⟨b, off, fun _ => e, fun _ => hb, hx⟩
  obtain ⟨i0, hi, hz0, hz1, hz2⟩ := info_parts info_u64
  have H1 := Lib.hid hx1
  have Hbo := Lib.hid hbo
  have Hb1 := Lib.hid hb1
  clear hr1 hx1 hw1 hbo hb1 hc1
  refine (callsIn_wide (n := 4)).1 ?_
  refine callsIn_of_wp_marks Tryz.func108 rfl trivial ?_ rfl
  simp only [Tryz.ntmps108, List.size_toArray, List.length_cons, List.length_nil, Nat.reduceAdd, Nat.reduceSub, Array.replicate_succ, Array.replicate_zero, List.push_toArray, List.append_toArray, List.nil_append, List.cons_append]
  gi_wp2_with (refine ⟨trivial, ?_⟩; gi_at_call 133; refine (chunk_in Fence.wide _ trivial rfl _ _ _ _).mono ?_; rintro e w' ⟨rfl, rfl⟩)
  have bO := Boxed.new w 138 (.slice none 0 0)
  have bS := Boxed.new (w.alloc (.cells #[.slice none 0 0] 138)) 22 (.slice a1 l.length c1)
  have bN := Boxed.new ((w.alloc (.cells #[.slice none 0 0] 138)).alloc (.cells #[.slice a1 l.length c1] 22)) 3 (.int .i64 7)
  simp only [World.size_alloc] at bS bN
  have hB0 : Below w.heap.size w (((w.alloc (.cells #[.slice none 0 0] 138)).alloc (.cells #[.slice a1 l.length c1] 22)).alloc (.cells #[.int .i64 7] 3)) := (((Below.refl _ w).alloc (Nat.le_refl _) _).alloc (by simp) _).alloc (by simp; omega) _
  refine wpIn_rangeFunc_ownG rfl (by omega) (gf := 158) (lb := #[.pointer (some ⟨w.heap.size + 1, 0, none⟩), .pointer (some ⟨w.heap.size + 1 + 1, 0, none⟩)]) rfl trivial (enters_of Tryz.func158 (by kernel_rfl) rfl)
    (chunk_stops _ (by omega) (w.heap.size + 1) (w.heap.size + 1 + 1) w.heap.size a1 c1 l.length _ (by simp) (by simp) hl1 hlen (bS.alloc _).cell bN.cell b1 o1 Hbo.out) KeepsTwo.trans (KeepsTwo.b (by simp; omega) (by simp) (by simp)) (Below.refl _ _) (fun _ => rfl)
    (fun pre W => (∃ v, Boxed W w.heap.size 138 v ∧ W.ownsRow w.heap.size 25 1 v pre.length ((pre.map (fun x : Sev l.length => elem l x.1)).map (Value.int .u64)) ∧ True) ∧ Boxed W (w.heap.size + 1) 22 (.slice a1 l.length c1) ∧ Boxed W (w.heap.size + 1 + 1) 3 (.int .i64 7) ∧ Below w.heap.size w W)
    (fun _ _ _ => False)
    (OwnFrom.and (Own.from (holdsRow_own w.heap.size w.heap.size 138 25 1 (fun pre => pre.length) (fun pre : List (Sev l.length) => (pre.map (fun x : Sev l.length => elem l x.1)).map (Value.int .u64)) (fun _ _ => True)) _) (OwnFrom.and (Own.from (boxed_own (w.heap.size + 1) 22 (fun _ => .slice a1 l.length c1)) _) (OwnFrom.and (Own.from (boxed_own (w.heap.size + 1 + 1) 3 (fun _ => .int .i64 7)) _) (ownFrom_below (Nat.le_refl _) (by simp; omega)))))
    (fun _ _ _ _ _ hs _ _ => hs)
    ⟨⟨_, (bO.alloc _).alloc _, World.ownsRow_nil _ _ _ _, trivial⟩, bS.alloc _, bN, hB0⟩
    (fun x => { tmps := #[.slice a1 l.length c1, undef, .slice none 0 0, .pointer (some ⟨w.heap.size, 0, none⟩), .slice (some ⟨b1, o1 + 7 * x.1, none⟩) (seventh l.length x.1) (seventh l.length x.1), undef, undef, undef, .slice a1 l.length c1,
      .func (.func 158) #[] #[.pointer (some ⟨w.heap.size + 1, 0, none⟩), .pointer (some ⟨w.heap.size + 1 + 1, 0, none⟩)], .slice (some ⟨b1, o1 + 7 * x.1, none⟩) (seventh l.length x.1) (seventh l.length x.1), undef, undef, undef, undef, undef, undef, undef, undef, undef, undef, undef, undef, undef, undef, undef, undef, undef, undef, undef, undef], defers := [] }) ?assign ?body ?done ?stop
  case assign =>
    intro L p W K hK
    gi_wp2
    exact hK
  case body =>
    rintro L pre x W ⟨⟨v, hv, hrow, _⟩, bxS, bxN, hB⟩ hpl
    obtain ⟨j, hj⟩ := x
    dsimp only at *
    obtain ⟨sv, hsv⟩ : ∃ sv, seventh l.length j = sv := ⟨_, rfl⟩
    rw [hsv]
    have s1 : sv ≤ 7 := by rw [← hsv]; unfold seventh; omega
    have s2 : 7 * j + sv ≤ l.length := by rw [← hsv]; unfold seventh; omega
    have b3 : sv = 7 ∨ 7 * j + sv = l.length := by rw [← hsv]; unfold seventh; omega
    have Hb3 := Lib.hid b3
    have Hsv := Lib.hid hsv
    clear hsv b3
    have hb1 := Hb1.out (by omega)
    gi_wp2_with fail
    gi_loopw [5, 13] (fun n i wr => ∃ m : Nat, m ≤ sv ∧ i = .int .i64 m ∧ n = .int .u64 (le ((l.drop (7 * j)).take m)) ∧ wr = W) (fun _ i _ => sv - (intOf i).toNat)
    case atStart => exact ⟨0, Nat.zero_le _, rfl, by simp [le], rfl⟩
    case round =>
      obtain ⟨m, hm, rfl, rfl, rfl⟩ := hrel
      by_cases hlt : m < sv
      · have g1 := (hB.cell (p := ⟨b1, o1 + (7 * j + m), none⟩) hb1).trans (H1.out (7 * j + m) (by omega))
        rw [show o1 + (7 * j + m) = o1 + 7 * j + m by omega] at g1
        obtain ⟨c, ec⟩ : ∃ c, l[7 * j + m]?.getD 0 = c := ⟨_, rfl⟩
        obtain ⟨n, en⟩ : ∃ n, le ((l.drop (7 * j)).take m) = n := ⟨_, rfl⟩
        rw [ec] at g1
        rw [en]
        have Ec := Lib.hid ec
        have En := Lib.hid en
        clear ec en
        have hby := getD_byte l HB.out (7 * j + m)
        have hrg := le_rng ((l.drop (7 * j)).take m) fun x hx => HB.out x (List.mem_of_mem_drop (List.mem_of_mem_take hx))
        have hln : ((l.drop (7 * j)).take m).length = m := by simp; omega
        have hsn := part_snoc l (7 * j) m (by omega)
        rw [Ec.out] at hby hsn
        rw [hln, En.out] at hrg
        rw [En.out] at hsn
        have e1 := or_byte n c m (by omega) hrg.1 hrg.2 hby
        have Hs := Lib.hid hsn
        clear hby hrg hln hsn
        gi_wp2_with fail
        go_roundw
        case rel => exact ⟨m + 1, by omega, by go_num, by rw [Hs.out], trivial⟩
        case measure => simp [intOf]; omega
      · have hfull : (l.drop (7 * j)).take m = (l.drop (7 * j)).take 7 := by
          rcases Hb3.out with h7 | h7
          · rw [show m = 7 by omega]
          · rw [List.take_of_length_le (by simp; omega), List.take_of_length_le (by simp; omega)]
        rw [hfull]
        obtain ⟨x, ex⟩ : ∃ x, elem l j = x := ⟨_, rfl⟩
        rw [show le ((l.drop (7 * j)).take 7) = x from ex]
        have Ex := Lib.hid ex
        clear hfull ex
        have hc := hv.cell
        have hf := hv.frozen
        gi_wp2_with (gi_at_builtin; refine wpListIn_append_own _ rfl _ _ 138 rfl w.heap.size 25 i0 (.int .u64 0) 1 8 Tryz.underlying138 hi hz0 hz1 hz2 rfl (by decide) _ _ _ rfl (hrow.alloc _) ⟨wr.heap.size, 0, none⟩ 1 1 [.int .u64 x] rfl rfl (cell_one_new _ _ _) (by simp [Value.oneCell']) (by unfold maxLen; omega) (by omega) (by have := hB.size; simp; omega) ?_; intro v' w1 hown' hgrow _; obtain ⟨g', cap', rfl⟩ := ownsRow_succ hown'; obtain ⟨hv1, hv2, hr2, hk2, hb2⟩ := hv.appended (by decide) hrow hB.size (Nat.le_refl _) hown' hgrow; have bS2 := ((bxS.alloc _).kept hgrow (bxS.not_row (by decide) hrow)).other (B' := w.heap.size) (by omega) (.slice (some ⟨g', 0, none⟩) (pre.length + 1) cap'); have bN2 := ((bxN.alloc _).kept hgrow (bxN.not_row (by decide) hrow)).other (B' := w.heap.size) (by omega) (.slice (some ⟨g', 0, none⟩) (pre.length + 1) cap'); have hc1 := hv1.cell; have hf1 := hv1.frozen)
        refine ⟨hk2.from _, ⟨⟨hb2, bS2.cell.trans bxS.cell.symm⟩, ⟨hb2, bN2.cell.trans bxN.cell.symm⟩⟩, ⟨_, hv2, ?_, trivial⟩, bS2, bN2, hB.trans hb2⟩
        rw [List.length_append, List.map_append, List.map_append]
        show World.ownsRow _ _ _ _ _ (pre.length + 1) (_ ++ [Value.int .u64 (elem l j)])
        rw [Ex.out]; exact hr2
  case done =>
    rintro D ys W hD hys ⟨⟨v, hv, hrow, _⟩, _, _, hB⟩ hK
    have hc := hv.cell
    have he : ys.map (fun x : Sev l.length => elem l x.1) = elems l := by
      rw [show ys.map (fun x : Sev l.length => elem l x.1) = (ys.map (·.1)).map (elem l) by rw [List.map_map]; rfl, hys]; rfl
    have hn : ys.length = (elems l).length := by rw [← he, List.length_map]
    rw [he, hn] at hrow
    gi_wp2
    refine ⟨by simp, .inl ⟨_, _, rfl, run_takeDeferred hK, ?_⟩⟩
    exact ⟨_, results_tmp rfl _ _ _, v, rfl, Row.of_owns (ownsRow_putObj hrow _ hK rfl) (fun x hx => elem_wf l HB.out x hx), (fun g e => (hrow.lt g e).1), hB.trans (belowK_b (w := w) (Nat.le_refl _) W D _ _ (by simp at hD; omega) hK rfl rfl)⟩
  case stop =>
    rintro D c pre W _ _ h _
    exact h.elim
theorem Of_any (v : Value) (l : List Int) (w : World) (h : Row .u8 w v l) (hlen : l.length ≤ 1000000) :
    Calls Tryz.prog 108 #[v] w fun e w' => ∃ r, e = .returned r ∧ Row .u64 w' r (elems l) ∧ Below w.heap.size w w' :=
  (Of_own v l w h hlen).mono fun _ _ ⟨r, h1, h2, _, h4⟩ => ⟨r, h1, h2, h4⟩
end Go.Proofs.YtlaidjgdipacgaaGreatDoor
