/-
  The walks over wal.frame and wal.all.
-/
import Derived.Test.YtiijlakilogekaaGc
import Derived.Test.YtiijlakilogekaaHs
import Derived.Test.YtiijlakilogekaaHb
import Derived.Test.YtiijlakilogekaaWm
namespace Go.Proofs.Ytiijlakilogekaa
open Go.RowKit

theorem Row.of_bytes {w : World} {base : Nat} {v : Value} {l : List Int} (h : w.ownsRow base 5 1 v l.length (l.map (Value.int .u8))) (hb : ∀ x ∈ l, byte x) : Row .u8 w v l :=
  Row.of_owns h fun x hx => byte_wf_of (hb x hx)

/-- Three slices of bytes, just built into one. -/
theorem Rws.lit3 {w : World} {v1 v2 v3 : Value} {l1 l2 l3 : List Int} (t : TypeId) (h1 : Row .u8 w v1 l1) (h2 : Row .u8 w v2 l2) (h3 : Row .u8 w v3 l3) : Rws .u8 (w.alloc (.cells #[v1, v2, v3] t)) (.slice (some ⟨w.heap.size, 0, none⟩) 3 3) [l1, l2, l3] :=
  Rws.lit .u8 w t [v1, v2, v3] [l1, l2, l3] rfl (by simp [maxLen]) (by
    intro i hi
    have : i = 0 ∨ i = 1 ∨ i = 2 := by simp at hi; omega
    rcases this with rfl | rfl | rfl
    · exact h1
    · exact h2
    · exact h3)
theorem Rws.lit2 {w : World} {v1 v2 : Value} {l1 l2 : List Int} (t : TypeId) (h1 : Row .u8 w v1 l1) (h2 : Row .u8 w v2 l2) : Rws .u8 (w.alloc (.cells #[v1, v2] t)) (.slice (some ⟨w.heap.size, 0, none⟩) 2 2) [l1, l2] :=
  Rws.lit .u8 w t [v1, v2] [l1, l2] rfl (by simp [maxLen]) (by
    intro i hi
    have : i = 0 ∨ i = 1 := by simp at hi; omega
    rcases this with rfl | rfl
    · exact h1
    · exact h2)

theorem be4 (n : Nat) (h : n ≤ 100000) : Hm.be 4 (n : Int) = [(n : Int) / 16777216, (n : Int) / 65536, (n : Int) / 256 % 256, (n : Int) % 256] := by
  have e : Hm.be 4 (n : Int) = [(n : Int) / 16777216 % 256, (n : Int) / 65536 % 256, (n : Int) / 256 % 256, (n : Int) % 256] := by simp [Hm.be]
  rw [e, show (n : Int) / 16777216 % 256 = (n : Int) / 16777216 by omega, show (n : Int) / 65536 % 256 = (n : Int) / 65536 by omega]

set_option maxRecDepth 100000 in
set_option maxHeartbeats 1000000 in
theorem frame_any (v : Value) (l : List Int) (w : World) (h : Row .u8 w v l) (hlen : l.length ≤ 100000) :
    Calls Try.prog 19 #[v] w fun e w' => ∃ r, e = .returned r ∧ w'.ownsRow w.heap.size 5 1 r (Wm.frame l).length ((Wm.frame l).map (Value.int .u8)) ∧ Below w.heap.size w w' := by
  have H := Lib.hid h
  obtain ⟨a, cap, rfl, hl, hc, h0, -, hr⟩ := h
  clear h0 hr
  obtain ⟨n, hn⟩ : ∃ n, l.length = n := ⟨_, rfl⟩
  have H' := Lib.hid (hn ▸ H.out : Row .u8 w (.slice a n cap) l)
  have HN := Lib.hid hn
  have hb4 := be4 l.length hlen
  rw [hn] at hlen hb4 ⊢
  have hby : ∀ x ∈ Hm.be 4 (n : Int), byte x := Hm.be_byte 4 _
  have hr4 := Row.lit .u8 w 5 (Hm.be 4 (n : Int)) (by rw [Hm.be_length]; simp [maxLen]) (fun x hx => byte_wf_of (hby x hx))
  rw [hb4] at hr4
  replace hr4 : Row .u8 (w.alloc (.cells #[.int .u8 ((n : Int) / 16777216), .int .u8 ((n : Int) / 65536), .int .u8 ((n : Int) / 256 % 256), .int .u8 ((n : Int) % 256)] 5)) (.slice (some ⟨w.heap.size, 0, none⟩) 4 4) [(n : Int) / 16777216, (n : Int) / 65536, (n : Int) / 256 % 256, (n : Int) % 256] := hr4
  have HB := Lib.hid hb4
  clear hn H hb4 hby
  go_enter Try.func19, Try.ntmps19
  go_wp2_with fail
  refine (Sum_any _ l _ (H'.out.alloc _) (by rw [HN.out]; omega)).mono ?_; rintro e w1 ⟨rfl, hb1⟩
  have b1 := ((Below.refl _ w).alloc (Nat.le_refl _) (.cells #[.int .u8 ((n : Int) / 16777216), .int .u8 ((n : Int) / 65536), .int .u8 ((n : Int) / 256 % 256), .int .u8 ((n : Int) % 256)] 5)).trans (hb1.mono (by simp))
  have hr4' := hr4.below hb1
  go_wp2_with fail
  refine (Bytes_any _ _ _).mono ?_; rintro e w2 ⟨v3, rfl, hown, hb2⟩
  have b2 := b1.trans (hb2.mono b1.size)
  have hr3 := Row.of_bytes hown (fun x hx => by rcases List.mem_append.1 hx with h | h <;> exact Hm.be_byte _ _ x h)
  obtain ⟨a3, c3, e3⟩ : ∃ a c, v3 = .slice a 16 c := by
    obtain ⟨a, c, e, -⟩ := hr3
    rw [List.length_append, Hm.be_length, Hm.be_length] at e
    exact ⟨a, c, e⟩
  subst e3
  have hr4'' := hr4'.below hb2
  have hrl := H'.out.below b2
  have HL := Lib.hid (Rws.lit3 22 hr4'' hrl hr3)
  clear hr4 hr4' hr4'' hrl hown
  go_wp2_with fail
  refine (Concat_any _ _ _ HL.out (by simp [HN.out, Hm.be_length]; omega)).mono ?_; rintro e w3 ⟨r, rfl, hown, hb3⟩
  go_wp2_with fail
  go_ret
  refine ⟨_, rfl, ?_, (b2.alloc b2.size _).trans (hb3.mono (by have := b2.size; simp; omega))⟩
  have h := hown
  rw [← HB.out] at h
  simp only [List.flatten_cons, List.flatten_nil, List.append_nil] at h
  have e : Wm.frame l = Hm.be 4 (n : Int) ++ (l ++ (Hm.be 8 (Hm.sum l).a ++ Hm.be 8 (Hm.sum l).b)) := by
    unfold Wm.frame Hm.bytes; rw [HN.out, List.append_assoc]
  rw [e]
  exact owns_base h (by have := b2.size; simp; omega)

set_option maxRecDepth 100000 in
set_option maxHeartbeats 1000000 in
theorem all_any (v1 v2 : Value) (l1 l2 : List Int) (w : World) (h1 : Row .u8 w v1 l1) (h2 : Row .u8 w v2 l2) (n1 : l1.length ≤ 200000) (n2 : l2.length ≤ 200000) :
    Calls Try.prog 22 #[.agg #[v1, v2]] w fun e w' => ∃ r, e = .returned r ∧ w'.ownsRow w.heap.size 5 1 r (l1 ++ l2).length ((l1 ++ l2).map (Value.int .u8)) ∧ Below w.heap.size w w' := by
  have hL := (Rws.lit2 22 (h1.alloc (.cells #[v1, v2] 24)) (h2.alloc (.cells #[v1, v2] 24)))
  obtain ⟨a1, c1, rfl, -⟩ := h1
  obtain ⟨a2, c2, rfl, -⟩ := h2
  rw [World.size_alloc] at hL
  have HL := Lib.hid hL
  clear hL
  go_enter Try.func22, Try.ntmps22
  go_wp2_with fail
  refine (Concat_any _ _ _ HL.out (by simp; omega)).mono ?_; rintro e w1 ⟨r, rfl, hown, hb⟩
  go_wp2_with fail
  go_ret
  refine ⟨_, rfl, ?_, (((Below.refl _ w).alloc (Nat.le_refl _) _).alloc (by simp) _).trans (hb.mono (by simp; omega))⟩
  have := hown
  simp only [List.flatten_cons, List.flatten_nil, List.append_nil] at this
  exact owns_base this (by simp; omega)
end Go.Proofs.Ytiijlakilogekaa
