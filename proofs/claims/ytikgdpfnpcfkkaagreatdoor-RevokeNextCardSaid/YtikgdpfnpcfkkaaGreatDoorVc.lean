/-
  Walks over package revoke: serial, in, rises, with.
-/
import Derived.Test.YtikgdpfnpcfkkaaGreatDoorVb
import Derived.Test.YtikgdpfnpcfkkaaGreatDoorVx
import Derived.Test.YtikgdpfnpcfkkaaGreatDoorVy
namespace Go.Proofs.YtikgdpfnpcfkkaaGreatDoor
open Go.RowKit

set_option maxHeartbeats 400000 in
theorem serial_any (n : Int) (w : World) : Calls Tryz.prog 41 #[.int .i64 n] w fun e w' => e = .returned (.bool (decide (Sm.right n))) ∧ w = w' := by
  by_cases h0 : 0 ≤ n
  · by_cases h1 : n ≤ 1099511627776
    · go_enter Tryz.func41, Tryz.ntmps41
      go_wp2
      go_ret
      exact ⟨ret_bool (decide_eq_true ⟨by omega, by omega⟩).symm, rfl⟩
    · go_enter Tryz.func41, Tryz.ntmps41
      go_wp2
      go_ret
      exact ⟨ret_bool (decide_eq_false (fun h => by have := h.1; have := h.2; omega)).symm, rfl⟩
  · go_enter Tryz.func41, Tryz.ntmps41
    go_wp2
    go_ret
    exact ⟨ret_bool (decide_eq_false (fun h => by have := h.1; have := h.2; omega)).symm, rfl⟩

theorem odd_any (n : Int) (w : World) : Calls Tryz.prog 71 #[.int .i64 n] w fun e w' => e = .returned (.bool (!decide (Sm.right n))) ∧ Below w.heap.size w w' := by
  have hS := serial_any n w
  obtain ⟨x, hx⟩ : ∃ x, decide (Sm.right n) = x := ⟨_, rfl⟩
  rw [hx] at hS ⊢
  clear hx
  go_enter Tryz.func71, Tryz.ntmps71
  go_wp2_with fail
  refine hS.mono ?_; rintro e w' ⟨rfl, rfl⟩
  go_wp2_with fail
  go_ret
  exact ⟨rfl, Below.refl _ _⟩

theorem OddIn_any (v : Value) (l : List Int) (w : World) (h : Row .i64 w v l) (hl : l.length ≤ 1000000) :
    Calls Tryz.prog 74 #[v, .func (.func 71) #[] #[]] w fun e w' => e = .returned (.bool (!decide (∀ x ∈ l, Sm.right x))) ∧ Below w.heap.size w w' := by
  have hI := IndexFunc_anyOdd w (fun n => decide (Sm.right n)) v l w (Below.refl _ _) (fun n W _ => odd_any n W) h hl
  obtain ⟨a, c, rfl⟩ := h.shape l.length rfl
  clear h
  go_enter Tryz.func74, Tryz.ntmps74
  go_wp2_with fail
  refine hI.mono ?_; rintro e w1 ⟨r, rfl, hF, hb⟩
  rcases hF with ⟨rfl, hall⟩ | ⟨k, hk, rfl, hf, -⟩
  · have hd : (∀ x ∈ l, Sm.right x) := by
      intro x hx
      obtain ⟨i, hi, rfl⟩ := List.getElem_of_mem hx
      have := hall i hi
      rw [List.getElem?_eq_getElem hi] at this
      simpa using this
    have hd := decide_eq_true hd
    have HD := Lib.hid hd
    clear hall hd hI
    go_wp2_with fail
    go_ret
    exact ⟨ret_bool (by rw [HD.out]; rfl), hb⟩
  · have hd : ¬ (∀ x ∈ l, Sm.right x) := by
      intro hall
      have := hall l[k] (List.getElem_mem hk)
      rw [List.getElem?_eq_getElem hk] at hf
      simp [this] at hf
    have hd := decide_eq_false hd
    have HD := Lib.hid hd
    have k0 : (0 : Int) ≤ (k : Int) := by omega
    clear hf hd hI
    go_wp2_with fail
    go_ret
    exact ⟨ret_bool (by rw [HD.out]; rfl), hb⟩

theorem in_any (a : Option Addr) (n c : Nat) (w : World) : Calls Tryz.prog 16 #[.slice a n c] w fun e w' => e = .returned (.func (.func 45) #[] #[.pointer (some ⟨w.heap.size, 0, none⟩)]) ∧ w.alloc (.cells #[.slice a n c] 22) = w' := by
  go_enter Tryz.func16, Tryz.ntmps16
  go_wp2_with fail
  go_ret
  exact ⟨rfl, rfl⟩

theorem in1_any (n : Int) (v : Value) (l : List Int) (B : Nat) (w : World) (hB : Boxed w B 22 v) (h : Row .i64 w v l) (hl : l.length ≤ 1000000) (hs : l.Pairwise (· < ·)) :
    Calls Tryz.prog 45 #[.int .i64 n, .pointer (some ⟨B, 0, none⟩)] w fun e w' => e = .returned (.bool (decide (n ∈ l))) ∧ Below w.heap.size w w' := by
  have hS := Search_row v l n w h hl hs
  have hc := hB.cell
  obtain ⟨a, c, rfl⟩ := h.shape l.length rfl
  obtain ⟨x, hx⟩ : ∃ x, decide (n ∈ l) = x := ⟨_, rfl⟩
  obtain ⟨p, hp⟩ : ∃ p, Rv.pos l n = p := ⟨_, rfl⟩
  rw [hx, hp] at hS
  rw [hx]
  clear hx hp h hB hs
  go_enter Tryz.func45, Tryz.ntmps45
  go_wp2_with fail
  refine hS.mono ?_; rintro e w' ⟨rfl, hb⟩
  go_wp2_with fail
  go_ret
  exact ⟨rfl, hb⟩

theorem up_apart : ∀ {l : List Int}, l.Pairwise (· ≤ ·) → Apart l → l.Pairwise (· < ·)
  | [], _, _ => List.Pairwise.nil
  | [_], _, _ => by simp
  | a :: b :: t, h, hA => by
    have h1 : Apart (b :: t) := fun j hj => by have := hA (j + 1) (by simp at hj ⊢; omega); simpa using this
    have h2 := up_apart h.of_cons h1
    have h0 : a ≠ b := by have := hA 0 (by simp); simpa using this
    have h3 := List.rel_of_pairwise_cons h (List.mem_cons_self ..)
    rw [List.pairwise_cons]
    refine ⟨fun x hx => ?_, h2⟩
    rcases List.mem_cons.1 hx with rfl | hx
    · omega
    · have := List.rel_of_pairwise_cons h2 hx; omega
theorem apart_of {l : List Int} (h : l.Pairwise (· < ·)) : Apart l := fun j hj => by
  have := List.pairwise_iff_getElem.1 h j (j + 1) (by omega) hj (by omega)
  rw [List.getElem?_eq_getElem hj, List.getElem?_eq_getElem (show j < l.length by omega)]
  simp only [Option.getD_some]
  omega

set_option maxRecDepth 100000 in
set_option maxHeartbeats 1000000 in
theorem rises_any (v : Value) (l : List Int) (w : World) (h : Row .i64 w v l) (hl : l.length ≤ 1000000) :
    Calls Tryz.prog 44 #[v] w fun e w' => e = .returned (.bool (decide (Rv.rises l))) ∧ Below w.heap.size w w' := by
  have hS := IsSorted_row v l w h hl
  obtain ⟨a, c, rfl⟩ := h.shape l.length rfl
  have H := Lib.hid h
  clear h
  by_cases p1 : l.Pairwise (· ≤ ·)
  · rw [decide_eq_true p1] at hS
    by_cases p2 : Apart l
    · have hd : decide (Rv.rises l) = decide (∀ x ∈ l, Sm.right x) := by
        rw [decide_eq_decide]
        exact ⟨fun h => h.1, fun h => ⟨h, up_apart p1 p2⟩⟩
      rw [hd]
      obtain ⟨x, hx⟩ : ∃ x, decide (∀ x ∈ l, Sm.right x) = x := ⟨_, rfl⟩
      have hc := (compact_len l).2 p2
      have HX := Lib.hid hx; have HC := Lib.hid hc
      rw [hx]
      clear hd p1 p2 hx hc
      go_enter Tryz.func44, Tryz.ntmps44
      go_wp2_with fail
      refine hS.mono ?_; rintro e w1 ⟨rfl, hb1⟩
      clear hS
      go_wp2_with fail
      refine (Clone64_any _ l w1 (H.out.below hb1) (by omega)).mono ?_; rintro e w2 ⟨r, rfl, own, hb2⟩
      have hB2 := hb1.trans (hb2.mono hb1.size)
      have hC := Compact_own r l w.heap.size w2 (owns_base own hb1.size) hl hB2.size
      obtain ⟨a2, n2, c2, rfl⟩ := owns_slice own
      clear own hb1 hb2
      go_wp2_with fail
      refine hC.mono ?_; rintro e w3 ⟨⟨a3, c3, rfl⟩, hb3⟩
      rw [HC.out]
      have hB3 := hB2.trans hb3
      clear hC hb3
      have hO := OddIn_any _ l w3 (H.out.below hB3) hl
      rw [HX.out] at hO
      go_wp2_with fail
      refine hO.mono ?_; rintro e w4 ⟨rfl, hb4⟩
      clear hO
      go_wp2_with fail
      go_ret
      exact ⟨ret_bool (by simp), hB3.trans (hb4.mono hB3.size)⟩
    · have hd : decide (Rv.rises l) = false := decide_eq_false fun h => p2 (apart_of h.2)
      rw [hd]
      have hc : ¬ (Lib.compact l).length = l.length := fun h => p2 ((compact_len l).1 h)
      obtain ⟨n, hn⟩ : ∃ n, (Lib.compact l).length = n := ⟨_, rfl⟩
      rw [hn] at hc
      have HN := Lib.hid hn
      have hc' : ¬ ((n : Int) = (l.length : Int)) := by omega
      clear hd p1 p2 hn
      go_enter Tryz.func44, Tryz.ntmps44
      go_wp2_with fail
      refine hS.mono ?_; rintro e w1 ⟨rfl, hb1⟩
      clear hS
      go_wp2_with fail
      refine (Clone64_any _ l w1 (H.out.below hb1) (by omega)).mono ?_; rintro e w2 ⟨r, rfl, own, hb2⟩
      have hB2 := hb1.trans (hb2.mono hb1.size)
      have hC := Compact_own r l w.heap.size w2 (owns_base own hb1.size) hl hB2.size
      obtain ⟨a2, n2, c2, rfl⟩ := owns_slice own
      clear own hb1 hb2
      go_wp2_with fail
      refine hC.mono ?_; rintro e w3 ⟨⟨a3, c3, rfl⟩, hb3⟩
      rw [HN.out]
      have hB3 := hB2.trans hb3
      clear hC hb3
      go_wp2_with fail
      go_ret
      exact ⟨rfl, hB3⟩
  · rw [decide_eq_false p1] at hS
    have hd : decide (Rv.rises l) = false := decide_eq_false fun h => p1 (h.2.imp fun h => Int.le_of_lt h)
    rw [hd]
    clear hd p1
    go_enter Tryz.func44, Tryz.ntmps44
    go_wp2_with fail
    refine hS.mono ?_; rintro e w1 ⟨rfl, hb1⟩
    go_wp2_with fail
    go_ret
    exact ⟨rfl, hb1⟩

set_option maxRecDepth 100000 in
set_option maxHeartbeats 1000000 in
theorem with_any (v : Value) (l : List Int) (n : Int) (w : World) (h : Row .i64 w v l) (hl : l.length ≤ 100000) (hs : l.Pairwise (· < ·)) (hn : (Lit.int .i64 n).wf = true) :
    Calls Tryz.prog 17 #[v, .int .i64 n] w fun e w' => ∃ a c, e = .returned (.slice a (Rv.ins l n).length c) ∧ Row .i64 w' (.slice a (Rv.ins l n).length c) (Rv.ins l n) ∧ Past w.heap.size (.slice a (Rv.ins l n).length c) ∧ Below w.heap.size w w' := by
  have hS := Search_row v l n w h (by omega) hs
  have hwf := h.wf
  obtain ⟨a, c, rfl⟩ := h.shape l.length rfl
  have H := Lib.hid h
  obtain ⟨p, hp⟩ : ∃ p, Rv.pos l n = p := ⟨_, rfl⟩
  have hpl : p ≤ l.length := by rw [← hp]; exact Rv.pos_le l n
  obtain ⟨x, hx⟩ : ∃ x, decide (n ∈ l) = x := ⟨_, rfl⟩
  rw [hx, hp] at hS
  have hL : l.take p ++ n :: l.drop p = Rv.ins l n := by unfold Rv.ins; rw [hp]
  rw [Rv.ins_length]
  have HL := Lib.hid hL; have HW := Lib.hid hwf
  clear hx hp h hs hL hwf
  go_enter Tryz.func17, Tryz.ntmps17
  go_wp2_with fail
  refine hS.mono ?_; rintro e w1 ⟨rfl, hb1⟩
  clear hS
  go_wp2_with fail
  refine (Clone64_any _ l w1 (H.out.below hb1) (by omega)).mono ?_; rintro e w2 ⟨r, rfl, own, hb2⟩
  have hB2 := hb1.trans (hb2.mono hb1.size)
  have own2 := (owns_base own hb1.size).alloc (.cells #[.int .i64 n] 3)
  have hnew : (w2.alloc (.cells #[.int .i64 n] 3)).heap[w2.heap.size]? = some (.cells #[.int .i64 n] 3 (0, 0)) := World.alloc_heap_new w2 _
  have hB3 := hB2.alloc hB2.size (.cells #[.int .i64 n] 3)
  have hne : ∀ g, r.ownBlock = some g → g ≠ w2.heap.size := by
    intro g hg
    rcases own.2 with ⟨rfl, _⟩ | ⟨g', cap', cur, rfl, _, hh, _⟩
    · simp [Value.ownBlock] at hg
    · simp [Value.ownBlock] at hg
      subst hg
      have := (Array.getElem?_eq_some_iff.1 hh).1
      omega
  have hI := Insert_own r l p n w2.heap.size w.heap.size _ own2 (by omega) hpl HW.out hn hnew hne hB3.size
  rw [HL.out] at hI
  obtain ⟨a2, n2, c2, rfl⟩ := owns_slice own
  have HI := Lib.hid hI
  have HB3 := Lib.hid hB3
  clear hI own own2 hnew hne hB2 hB3 hb1 hb2
  go_wp2_with fail
  refine HI.out.mono ?_; rintro e w3 ⟨a3, c3, rfl, r3, p3, hb3⟩
  have hB3 := HB3.out.trans hb3
  clear hb3 HI HB3
  go_wp2_with fail
  go_ret
  exact ⟨a3, c3, rfl, r3, p3, hB3⟩
end Go.Proofs.YtikgdpfnpcfkkaaGreatDoor
