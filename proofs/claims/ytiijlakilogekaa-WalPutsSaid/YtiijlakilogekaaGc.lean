/-
  The walks over slices.Grow and slices.Concat, of bytes.
-/
import Derived.Test.YtiijlakilogekaaSb
import Derived.Test.YtiijlakilogekaaRw
import Derived.Lib.AppendZerosOnto
import Derived.Lib.AppendZeros
namespace Go.Proofs.Ytiijlakilogekaa
open Go.RowKit

set_option maxHeartbeats 1000000 in
theorem Grow_nil (n : Nat) (w : World) (hn : n ≤ 10000000) :
    Calls Try.prog 25 #[.slice none 0 0, .int .i64 n] w fun e w' => ∃ r, e = .returned r ∧ w'.ownsRow w.heap.size 5 1 r 0 [] ∧ Below w.heap.size w w' := by
  obtain ⟨i0, hi, hz0, hz1, hz2⟩ := info_parts info_u8
  by_cases h0 : n = 0
  · subst h0
    go_enter Try.func25, Try.ntmps25
    go_wp2
    go_ret
    exact ⟨_, rfl, World.ownsRow_nil _ _ _ _, Below.refl _ _⟩
  · have hpos : 0 < n := by omega
    have hold : (Builtin.firstCells i0.size 0 (.slice none 0 0)).run Try.prog w.drew = .ok (#[] : Array Value) w.drew := run_firstCells_none w.drew i0.size 0 0 0
    have hrz : ∀ ty, (Builtin.append_ #[22, 3] ty #[.slice none 0 0, .int .i64 n]).run Try.prog w =
        .ok (.slice (some ⟨w.heap.size, 0, none⟩) n (grownCap w n 0 5)) (w.drew.alloc (.cells (Builtin.zeroCells #[Value.int .u8 0] n ++ Builtin.zeroCells #[Value.int .u8 0] (grownCap w n 0 5 - n)) 5)) := fun ty => by
      have h := Lib.run_append_grow_zeros w 22 3 ty 5 i0 (.int .u8 0) .i64 .i64 Try.underlying22 Try.underlying3 hi hz0 none 0 0 [] hold n hpos (by omega) (by omega) (by omega)
        (by rw [hz2]; omega) (by rw [hz2]; exact growslice_fits (by omega) (by omega))
      simpa [Value.cells] using h
    have hGn : n ≤ grownCap w n 0 5 := grownCap_ge w _ _ _
    have hGm : grownCap w n 0 5 ≤ maxLen := grownCap_le_maxLen w n 0 5 (by unfold maxLen; omega)
    obtain ⟨G, hG⟩ : ∃ G, G = grownCap w n 0 5 := ⟨_, rfl⟩
    rw [← hG] at hrz hGn hGm
    have hG63 : G ≤ 9223372036854775807 := by unfold maxLen at hGm; omega
    have HG := Lib.hid hGm
    have hos := World.ownsRow_made (base := w.heap.size) (e := 5) (size := 1) w.drew (Builtin.zeroCells #[Value.int .u8 0] n ++ Builtin.zeroCells #[Value.int .u8 0] (G - n)) G (Nat.le_refl _) hGm (by
      simp only [Array.size_append, size_zeroCells]; simp; omega)
    clear hold hG h0 hGm
    go_enter Try.func25, Try.ntmps25
    go_wp2_with (at_builtin; refine Lib.wpList_append_run _ rfl _ _ _ _ rfl _ _ rfl rfl _ _ (hrz _) ?_)
    all_goals (go_ret; exact ⟨_, rfl, hos, ((Below.refl _ w).drew).alloc (Nat.le_refl _) _⟩)

theorem flat_snoc (ls : List (List Int)) (k : Nat) (h : k < ls.length) : (ls.take (k + 1)).flatten = (ls.take k).flatten ++ ls[k]?.getD [] := by
  rw [List.take_succ_eq_append_getElem h, List.flatten_append, List.getElem?_eq_getElem h]; simp
theorem flat_le (ls : List (List Int)) (k : Nat) : ((ls.take k).flatten).length ≤ ls.flatten.length := by
  conv => rhs; rw [← List.take_append_drop k ls, List.flatten_append, List.length_append]
  omega

set_option maxRecDepth 100000 in
set_option maxHeartbeats 2000000 in
theorem Concat_any (v : Value) (ls : List (List Int)) (w : World) (h : Rws .u8 w v ls) (hlen : ls.flatten.length ≤ 1000000) :
    Calls Try.prog 18 #[v] w fun e w' => ∃ r, e = .returned r ∧ w'.ownsRow w.heap.size 5 1 r ls.flatten.length (ls.flatten.map (Value.int .u8)) ∧ Below w.heap.size w w' := by
  obtain ⟨i0, hi, hz0, hz1, hz2⟩ := info_parts info_u8
  obtain ⟨a, cap, V, rfl, hlc, hcm, -, hr, hV⟩ := h
  unfold maxLen at hcm
  have HR := Lib.hid hr
  have HV := Lib.hid hV
  clear hr hV
  go_enter Try.func18, Try.ntmps18
  go_wp2_with fail
  go_loop [3, 11] (fun s i => ∃ k : Nat, k ≤ ls.length ∧ i = .int .i64 k ∧ s = .int .i64 ((ls.take k).flatten.length : Nat)) (fun _ i => ls.length - (intOf i).toNat)
  case atStart => exact ⟨0, Nat.zero_le _, rfl, by simp⟩
  case round =>
    obtain ⟨k, hk, rfl, rfl⟩ := hrel
    by_cases hlt : k < ls.length
    · obtain ⟨b, off, rfl, hb, hc⟩ := HR.out (by rintro rfl; simp at hlt)
      have g := hc k hlt
      obtain ⟨a', c', e', hl', hcm', -, -, -⟩ := HV.out k hlt
      rw [e'] at g
      have hs := congrArg List.length (flat_snoc ls k hlt)
      rw [List.length_append] at hs
      have hle := flat_le ls (k + 1)
      obtain ⟨s, es⟩ : ∃ s, ((ls.take k).flatten).length = s := ⟨_, rfl⟩
      obtain ⟨q, eq⟩ : ∃ q, (ls[k]?.getD []).length = q := ⟨_, rfl⟩
      rw [eq] at g hs
      rw [es] at hs ⊢
      have hsq : s + q ≤ 1000000 := by omega
      have Hs := Lib.hid hs
      clear hs hle es eq e' hc hl' hcm'
      go_wp2_with fail
      go_round
      case rel => exact ⟨k + 1, by omega, by go_num, by rw [Hs.out]; go_num⟩
      case measure => simp [intOf]; omega
    · obtain rfl : k = ls.length := by omega
      rw [List.take_length]
      obtain ⟨t, ht⟩ : ∃ t, ls.flatten.length = t := ⟨_, rfl⟩
      rw [ht] at hlen ⊢
      have Ht := Lib.hid ht
      clear ht
      go_wp2_with fail
      refine (Grow_nil t _ (by omega)).mono ?_; rintro e w1 ⟨r, rfl, hown, hb⟩
      go_wp2_with fail
      go_loopw [6, 27] (fun v i wr => ∃ k : Nat, k ≤ ls.length ∧ i = .int .i64 k ∧ wr.ownsRow w.heap.size 5 1 v ((ls.take k).flatten).length (((ls.take k).flatten).map (Value.int .u8)) ∧ Below w.heap.size w wr) (fun _ i _ => ls.length - (intOf i).toNat)
      case atStart => exact ⟨0, Nat.zero_le _, rfl, by simpa using hown, hb⟩
      case round =>
        obtain ⟨k, hk, rfl, hown, hB⟩ := hrel
        by_cases hlt : k < ls.length
        · obtain ⟨b, off, rfl, hb0, hc⟩ := HR.out (by rintro rfl; simp at hlt)
          have g := (hB.cell (p := ⟨b, off + k, none⟩) hb0).trans (hc k hlt)
          have hrow := (HV.out k hlt).below hB
          have hs := flat_snoc ls k hlt
          have hle := flat_le ls (k + 1)
          have hs' := congrArg List.length hs
          rw [List.length_append] at hs'
          rw [Ht.out] at hle
          have hsq : ((ls.take k).flatten).length + (ls[k]?.getD []).length ≤ 1000000 := by omega
          have Hs := Lib.hid hs
          clear hs hs' hle hc
          go_wp2_with (at_builtin; refine wpList_append_row rfl _ _ 22 rfl w.heap.size 5 i0 (.int .u8 0) 1 Try.underlying22 hi hz0 hz1 hz2 rfl _ _ _ rfl hown .u8 _ _ hrow rfl (by unfold maxLen; omega) (by omega) hB.size ?_; intro v4 w4 hown4 hb4)
          go_roundw
          case rel => exact ⟨k + 1, by omega, by go_num, by rw [Hs.out, List.length_append, List.map_append]; exact hown4, hB.trans hb4⟩
          case measure => simp [intOf]; omega
        · obtain rfl : k = ls.length := by omega
          rw [List.take_length] at hown
          go_wp2_with fail
          go_ret
          exact ⟨_, rfl, hown, hB⟩
end Go.Proofs.Ytiijlakilogekaa
