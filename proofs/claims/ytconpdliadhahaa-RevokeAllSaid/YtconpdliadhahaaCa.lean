/-
  Walks over package cascade: time, dated, salt, numbers; slices of sieves.
-/
import Derived.Test.YtconpdliadhahaaCm
import Derived.Test.YtconpdliadhahaaRv
import Derived.Test.YtconpdliadhahaaCo
namespace Go.Proofs.Ytconpdliadhahaa
open Go.RowKit

/-- A slice of sieves. -/
def Svs (w : World) (v : Value) (ls : List Sm.Sv) : Prop :=
  ∃ a cap, v = .slice a ls.length cap ∧ ls.length ≤ cap ∧ cap ≤ maxLen ∧ (a = none → cap = 0) ∧
    (ls ≠ [] → ∃ b off, a = some ⟨b, off, none⟩ ∧ b < w.heap.size ∧ ∀ i, i < ls.length → ∃ vb, Row .u8 w vb (ls[i]?.getD Cm.nil).b ∧
      w.cell? ⟨b, off + i * 4, none⟩ = some (.int .i64 (ls[i]?.getD Cm.nil).bits) ∧ w.cell? ⟨b, off + i * 4 + 1, none⟩ = some (.int .i64 (ls[i]?.getD Cm.nil).hashes) ∧
      w.cell? ⟨b, off + i * 4 + 2, none⟩ = some (.int .i64 (ls[i]?.getD Cm.nil).salt) ∧ w.cell? ⟨b, off + i * 4 + 3, none⟩ = some vb)
theorem Svs.below {w w' : World} {v : Value} {ls : List Sm.Sv} (h : Svs w v ls) (hb : Below w.heap.size w w') : Svs w' v ls := by
  obtain ⟨a, cap, h1, h2, h3, h0, h5⟩ := h
  refine ⟨a, cap, h1, h2, h3, h0, fun hne => ?_⟩
  obtain ⟨b, off, e, hlt, hc⟩ := h5 hne
  refine ⟨b, off, e, Nat.lt_of_lt_of_le hlt hb.size, fun i hi => ?_⟩
  obtain ⟨vb, r, k0, k1, k2, k3⟩ := hc i hi
  exact ⟨vb, r.below hb, (hb.cell (p := ⟨b, _, none⟩) hlt).trans k0, (hb.cell (p := ⟨b, _, none⟩) hlt).trans k1, (hb.cell (p := ⟨b, _, none⟩) hlt).trans k2, (hb.cell (p := ⟨b, _, none⟩) hlt).trans k3⟩
theorem Svs.nil (w : World) : Svs w (.slice none 0 0) [] := ⟨none, 0, rfl, Nat.le_refl _, Nat.zero_le _, fun _ => rfl, fun h => absurd rfl h⟩
theorem Svs.shape {w : World} {v : Value} {ls : List Sm.Sv} (h : Svs w v ls) : ∃ a c, v = .slice a ls.length c := by
  obtain ⟨a, c, e, -⟩ := h
  exact ⟨a, c, e⟩
theorem Svs.alloc {w : World} {v : Value} {ls : List Sm.Sv} (h : Svs w v ls) (o : Obj) : Svs (w.alloc o) v ls := h.below ((Below.refl _ w).alloc (Nat.le_refl _) o)
theorem Svs.stp {w w' : World} {v : Value} {ls : List Sm.Sv} (h : Svs w v ls) (s : Stp w w') : Svs w' v ls := h.below s
theorem Svs.drew {w : World} {v : Value} {ls : List Sm.Sv} (h : Svs w v ls) : Svs w.drew v ls := h.below (Below.refl _ _).drew

set_option maxHeartbeats 400000 in
theorem time_any (n : Int) (w : World) : Calls Try.prog 58 #[.int .i64 n] w fun e w' => e = .returned (.bool (decide (Sm.right n))) ∧ w = w' := by
  by_cases h0 : 0 ≤ n
  · by_cases h1 : n ≤ 1099511627776
    · go_enter Try.func58, Try.ntmps58
      go_wp2
      go_ret
      exact ⟨ret_bool (decide_eq_true ⟨by omega, by omega⟩).symm, rfl⟩
    · go_enter Try.func58, Try.ntmps58
      go_wp2
      go_ret
      exact ⟨ret_bool (decide_eq_false (fun h => by have := h.1; have := h.2; omega)).symm, rfl⟩
  · go_enter Try.func58, Try.ntmps58
    go_wp2
    go_ret
    exact ⟨ret_bool (decide_eq_false (fun h => by have := h.1; have := h.2; omega)).symm, rfl⟩
theorem dated_any (n : Int) (w : World) : Calls Try.prog 42 #[.int .i64 n] w fun e w' => e = .returned (.bool (decide (Cm.dated n))) ∧ w = w' := by
  have hT := time_any n w
  by_cases h : Sm.right n
  · rw [decide_eq_true h] at hT
    by_cases h2 : n < 68719476736
    · have hd : Cm.dated n := ⟨h.1, h2⟩
      have hd := Lib.hid (decide_eq_true hd)
      have h2' := decide_eq_true h2
      clear h
      go_enter Try.func42, Try.ntmps42
      go_wp2_with fail
      refine hT.mono ?_; rintro e w' ⟨rfl, rfl⟩
      go_wp2_with fail
      go_ret
      exact ⟨ret_bool (by rw [hd.out]; first | done | rfl | exact h2'), rfl⟩
    · have hd : ¬ Cm.dated n := fun h => h2 h.2
      have hd := Lib.hid (decide_eq_false hd)
      have h2' := decide_eq_false h2
      clear h
      go_enter Try.func42, Try.ntmps42
      go_wp2_with fail
      refine hT.mono ?_; rintro e w' ⟨rfl, rfl⟩
      go_wp2_with fail
      go_ret
      exact ⟨ret_bool (by rw [hd.out]; first | done | rfl | exact h2'), rfl⟩
  · rw [decide_eq_false h] at hT
    have hd : ¬ Cm.dated n := fun hd => h ⟨hd.1, by have := hd.2; omega⟩
    have hd := Lib.hid (decide_eq_false hd)
    clear h
    go_enter Try.func42, Try.ntmps42
    go_wp2_with fail
    refine hT.mono ?_; rintro e w' ⟨rfl, rfl⟩
    go_wp2_with fail
    go_ret
    exact ⟨ret_bool (by rw [hd.out]; first | done | rfl | exact h2'), rfl⟩
theorem salt_any (day i : Int) (w : World) (h0 : 0 ≤ day) (h1 : day < 68719476736) (h2 : 0 ≤ i) (h3 : i ≤ 1000) : Calls Try.prog 43 #[.int .i64 day, .int .i64 i] w fun e w' => e = .returned (.int .i64 (16 * day + i)) ∧ w = w' := by
  have e1 : IntKind.i64.wrap (16 * day) = 16 * day := IntWalk.i64_in _ (by omega)
  have e2 : IntKind.i64.wrap (16 * day + i) = 16 * day + i := IntWalk.i64_in _ (by omega)
  go_enter Try.func43, Try.ntmps43
  go_wp2_with fail
  go_ret
  exact ⟨rfl, rfl⟩

/-- The first k may be, and the next one has to be more than m. -/
def Fine (l : List Int) (k : Nat) (m : Int) : Prop := -1 ≤ m ∧ Rv.rises (l.take k) ∧ ∀ x ∈ l.take k, x ≤ m
theorem Fine.snoc {l : List Int} {k : Nat} {m x : Int} (h : Fine l k m) (hk : k < l.length) (hx : l[k]?.getD 0 = x) (hm : m < x) (hr : Sm.right x) : Fine l (k + 1) x := by
  obtain ⟨h1, ⟨h2, h3⟩, h4⟩ := h
  have e : l.take (k + 1) = l.take k ++ [x] := by
    rw [List.take_succ_eq_append_getElem hk]
    rw [List.getElem?_eq_getElem hk] at hx
    rw [← hx]; rfl
  unfold Fine
  rw [e]
  refine ⟨by omega, ⟨fun y hy => ?_, ?_⟩, fun y hy => ?_⟩
  · rcases List.mem_append.1 hy with hy | hy
    · exact h2 y hy
    · rw [List.mem_singleton.1 hy]; exact hr
  · rw [List.pairwise_append]
    exact ⟨h3, by simp, fun a ha b hb => by rw [List.mem_singleton.1 hb]; have := h4 a ha; omega⟩
  · rcases List.mem_append.1 hy with hy | hy
    · have := h4 y hy; omega
    · rw [List.mem_singleton.1 hy]; omega
theorem Fine.not {l : List Int} {k : Nat} {m x : Int} (hk : k < l.length) (hx : l[k]?.getD 0 = x) (hm : k = 0 → m = -1) (hm2 : ∀ j, k = j + 1 → l[j]?.getD 0 = m) (h : ¬ (m < x ∧ Sm.right x)) : ¬ Rv.rises l := by
  rintro ⟨hr, hp⟩
  rw [List.getElem?_eq_getElem hk] at hx
  have hxr : Sm.right x := by rw [← hx]; exact hr _ (List.getElem_mem hk)
  refine h ⟨?_, hxr⟩
  cases k with
  | zero => rw [hm rfl]; have := hxr.1; omega
  | succ j =>
    have h1 := hm2 j rfl
    rw [List.getElem?_eq_getElem (show j < l.length by omega)] at h1
    have h2 := List.pairwise_iff_getElem.1 hp j (j + 1) (by omega) hk (by omega)
    simp only [Option.getD_some] at h1 hx
    omega
/-- Numbers that may be handed to Make. -/
def NumOk (l : List Int) : Prop := Rv.rises l ∧ l.length ≤ 256
instance (l : List Int) : Decidable (NumOk l) := by unfold NumOk; infer_instance
/-- What stands in front of place k. -/
def Before (l : List Int) (k : Nat) (m : Int) : Prop := (k = 0 → m = -1) ∧ ∀ j, k = j + 1 → l[j]?.getD 0 = m

theorem before_snoc {l : List Int} {k : Nat} {x : Int} (h : l[k]?.getD 0 = x) : Before l (k + 1) x := ⟨fun e => by omega, fun j e => by
  obtain rfl : j = k := by omega
  exact h⟩

set_option maxRecDepth 100000 in
set_option maxHeartbeats 1000000 in
theorem numbers_any (v : Value) (l : List Int) (w : World) (h : Row .i64 w v l) (hl : l.length ≤ 1000000) :
    Calls Try.prog 53 #[v] w fun e w' => e = .returned (.bool (decide (NumOk l))) ∧ w = w' := by
  obtain ⟨a, cap, rfl⟩ := h.shape l.length rfl
  have H := Lib.hid h
  clear h
  go_enter Try.func53, Try.ntmps53
  go_wp2_with fail
  go_loop [3, 5, 8] (fun m _ i => ∃ (k : Nat) (x : Int), i = .int .i64 k ∧ m = .int .i64 x ∧ k ≤ l.length ∧ Fine l k x ∧ Before l k x) (fun _ _ i => l.length - (intOf i).toNat)
  case atStart => exact ⟨0, -1, rfl, rfl, Nat.zero_le _, ⟨by omega, by simp [Rv.rises], by simp⟩, fun _ => rfl, fun j e => by omega⟩
  case round =>
    obtain ⟨k, m, rfl, rfl, hk, hF, hBf⟩ := hrel
    have HF := Lib.hid hF; have HBf := Lib.hid hBf
    have k0 : (0 : Int) ≤ (k : Int) := by omega
    have e1 : IntKind.i64.wrap ((k : Int) + 1) = (k : Int) + 1 := IntWalk.i64_in _ (by omega)
    clear hF hBf
    by_cases hlt : k < l.length
    · have hrow := H.out
      obtain ⟨_, _, e', _, _, _, _, h5⟩ := hrow
      cases e'
      obtain ⟨b0, o0, rfl, hb0, hc0⟩ := h5 (by rintro rfl; simp at hlt)
      have hck := hc0 k hlt
      obtain ⟨x, hx⟩ : ∃ x, l[k]?.getD 0 = x := ⟨_, rfl⟩
      rw [hx] at hck
      have HX := Lib.hid hx
      have k1 : (k : Int) < (l.length : Int) := by omega
      clear hc0 h5 hx
      by_cases hm : m < x
      · have hmd : decide (x ≤ m) = false := decide_eq_false (by omega)
        have hT := time_any x w
        by_cases hr : Sm.right x
        · rw [decide_eq_true hr] at hT
          have HR := Lib.hid hr
          clear hr
          go_wp2_with (go_at_call 58; refine hT.mono ?_; rintro e w' ⟨rfl, rfl⟩)
          go_round
          case rel =>
            exact ⟨k + 1, x, by go_num, rfl, by omega, HF.out.snoc hlt HX.out (by omega) HR.out, before_snoc HX.out⟩
          case measure => simp [intOf]; omega
        · rw [decide_eq_false hr] at hT
          have hno := Fine.not hlt HX.out HBf.out.1 HBf.out.2 (fun h => hr h.2)
          have HN := Lib.hid hno
          clear hr hno
          go_wp2_with (go_at_call 58; refine hT.mono ?_; rintro e w' ⟨rfl, rfl⟩)
          go_ret
          exact ⟨ret_bool (decide_eq_false (fun h => HN.out h.1)).symm, rfl⟩
      · have hno := Fine.not hlt HX.out HBf.out.1 HBf.out.2 (fun h => hm h.1)
        have HN := Lib.hid hno
        clear hno
        go_wp2_with fail
        go_ret
        exact ⟨ret_bool (decide_eq_false (fun h => HN.out h.1)).symm, rfl⟩
    · obtain rfl : k = l.length := by omega
      go_wp2_with fail
      go_ret
      have hF := HF.out.2.1
      rw [List.take_length] at hF
      exact ⟨ret_bool (by rw [decide_eq_decide]; exact ⟨fun h => ⟨hF, by omega⟩, fun h => by have := h.2; omega⟩), rfl⟩
end Go.Proofs.Ytconpdliadhahaa
