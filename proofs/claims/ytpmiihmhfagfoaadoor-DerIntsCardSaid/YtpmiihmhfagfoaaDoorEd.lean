/-
  Walks over der.Text, der.Oct, der.Bool, slices.Clone of items, der.Seq.
-/
import Derived.Test.YtpmiihmhfagfoaaDoorEb
import Derived.Test.YtpmiihmhfagfoaaDoorDf
namespace Go.Proofs.YtpmiihmhfagfoaaDoor
open Go.RowKit

def strB (s : ByteArray) : List Int := s.data.toList.map fun b => (b.toNat : Int)
theorem strB_len (s : ByteArray) : (strB s).length = s.size := by unfold strB; rw [List.length_map]; exact Array.length_toList
theorem strB_byte (s : ByteArray) : ∀ x ∈ strB s, byte x := by
  intro x hx
  obtain ⟨b, _, rfl⟩ := List.mem_map.1 hx
  have := b.toNat_lt
  unfold byte; omega
theorem str_row (w : World) (s : ByteArray) (cap : Nat) (hc : s.size ≤ cap) (hm : cap ≤ maxLen) (e : TypeId) (fr : Nat × Nat) :
    Row .u8 (w.alloc (.cells (bytesRow s cap) e fr)) (.slice (some ⟨w.heap.size, 0, none⟩) (strB s).length cap) (strB s) := by
  refine ⟨_, _, rfl, by rw [strB_len]; exact hc, hm, (fun e => by cases e), fun x hx => byte_wf_of (strB_byte s x hx), fun _ => ⟨w.heap.size, 0, rfl, by simp, fun i hi => ?_⟩⟩
  have hi' : i < s.data.size := by rw [strB_len] at hi; exact hi
  have := bytesRow_at s cap i hi'
  have hn := World.alloc_heap_new w (.cells (bytesRow s cap) e fr)
  simp only [World.cell?, Nat.zero_add, hn, this]
  unfold strB
  rw [List.getElem?_map, Array.getElem?_toList, Array.getElem?_eq_getElem hi']; rfl

set_option maxRecDepth 100000 in
theorem Text_mk (s : ByteArray) (w : World) (hs : s.size ≤ 1000000) :
    Calls Tryd.prog 36 #[.string s] w fun e w' => (∃ a c, e = .returned (.agg #[.int .i64 12, .slice a (strB s).length c, .slice none 0 0]) ∧
      Own w.heap.size none w' (.slice a (strB s).length c) (.slice none 0 0) (.mk 12 (strB s) [])) ∧ Below w.heap.size w w' := by
  have kW := run_bytes_of_string (P := Tryd.prog) (w.alloc (.cells #[.int .i64 0, .slice none 0 0, .slice none 0 0] 25)) 9 22 5 s Tryd.underlying9 Tryd.underlying22 Tryd.underlying5
  obtain ⟨C, hC⟩ : ∃ C, grownCap (w.alloc (.cells #[.int .i64 0, .slice none 0 0, .slice none 0 0] 25)) s.size 0 5 = C := ⟨_, rfl⟩
  have h1 : s.size ≤ C := by rw [← hC]; exact grownCap_ge _ s.size 0 _
  have h2 : C ≤ maxLen := by rw [← hC]; exact grownCap_le_maxLen _ s.size 0 _ (by unfold maxLen; omega)
  rw [hC] at kW
  have hrow := fun W => str_row W s C h1 h2 5 ((bytesRow s C).size, (bytesRow s C).size + 1)
  obtain ⟨O, hO⟩ : ∃ O, Obj.cells (bytesRow s C) 5 ((bytesRow s C).size, (bytesRow s C).size + 1) = O := ⟨_, rfl⟩
  rw [hO] at kW hrow
  have HR := Lib.hid hrow
  clear hrow h1 h2 hC hO
  go_enter Tryd.func36, Tryd.ntmps36
  go_wp2_with fail
  have hr := HR.out (w.alloc (.cells #[.int .i64 12, .slice (some ⟨w.heap.size + 1, 0, none⟩) s.size C, .slice none 0 0] 25))
  rw [World.size_alloc, strB_len] at hr
  have q : Trip (((w.alloc (.cells #[.int .i64 12, .slice (some ⟨w.heap.size + 1, 0, none⟩) s.size C, .slice none 0 0] 25)).alloc O).drew) w.heap.size 25 _ _ _ := Trip.alloc (Trip.new w _ _ _ _) O
  have hb : Below w.heap.size w (((w.alloc (.cells #[.int .i64 12, .slice (some ⟨w.heap.size + 1, 0, none⟩) s.size C, .slice none 0 0] 25)).alloc O).drew) := (((Below.refl _ w).alloc (Nat.le_refl _) _).alloc (by simp) O).drew
  refine bodyPost_ret (item_ret1 rfl rfl q) rfl ?_
  refine ⟨⟨_, _, by rw [strB_len], Own.bytes (by decide) ?_ ?_⟩, hb⟩
  · show Row .u8 _ _ (strB s)
    rw [strB_len]; exact hr.drew
  · rintro bb oo nn cc e0 h0
    cases e0; omega

set_option maxRecDepth 100000 in
theorem Oct_mk (v : Value) (l : List Int) (w : World) (h : Row .u8 w v l) (hlen : l.length ≤ 10000000) :
    Calls Tryd.prog 38 #[v] w fun e w' => (∃ a c, e = .returned (.agg #[.int .i64 4, .slice a l.length c, .slice none 0 0]) ∧
      Own w.heap.size none w' (.slice a l.length c) (.slice none 0 0) (.mk 4 l [])) ∧ Below w.heap.size w w' := by
  have hby := h.all_byte
  obtain ⟨B, hB⟩ : ∃ B, w.heap.size = B := ⟨_, rfl⟩
  rw [hB]
  have q0 := Trip.new w 25 (.int .i64 0) (.slice none 0 0) (.slice none 0 0)
  have hb0 := (Below.refl w.heap.size w).alloc (Nat.le_refl _) (.cells #[.int .i64 0, .slice none 0 0, .slice none 0 0] 25)
  obtain ⟨W, hW⟩ : ∃ W, w.alloc (.cells #[.int .i64 0, .slice none 0 0, .slice none 0 0] 25) = W := ⟨_, rfl⟩
  rw [hW] at q0 hb0
  have hCl := Clone8_any v l W (h.below hb0) hlen
  rw [hB] at q0 hb0
  have HW := Lib.hid hW; have HBy := Lib.hid hby
  clear hW hby h
  go_enter Tryd.func38, Tryd.ntmps38
  go_wp2_with fail
  rw [HW.out]
  (try rw [hB])
  (try go_wp2_with fail)
  refine hCl.mono ?_; rintro e w4 ⟨r, rfl, own, hb4⟩
  have hlt := q0.lt
  have q4 := trip_stp q0 hb4
  have hB4 := hb0.trans (hb4.mono (Nat.le_of_lt hlt))
  have rr := Row.of_bytes own HBy.out
  obtain ⟨ar, cr, rfl⟩ := rr.shape l.length rfl
  have hoff := rr.off_trip q4
  have HOw := Lib.hid own; have HRr := Lib.hid rr; have Q4 := Lib.hid q4; have HB4 := Lib.hid hB4; have HOff := Lib.hid hoff
  clear hCl own rr hB4 hb4 hoff q0 hb0
  have f0 := q4.free 0; have f1 := q4.free 1; have f2 := q4.free 2; have x0 := q4.cell0; have x1 := q4.cell1; have x2 := q4.cell2; have xl := q4.lt
  clear q4
  go_wp2_with fail
  refine bodyPost_ret (item_ret1 rfl rfl (trip3 Q4.out _ _ _)) rfl ?_
  refine ⟨⟨ar, cr, rfl, Own.bytes (by decide) (HRr.out.aside3 HOff.out _ _ _) ?_⟩, bel3' HB4.out (Nat.le_refl _) _ _ _⟩
  rintro bb oo nn cc e0 h0
  cases e0
  have := (OwnB.blk HOw.out bb rfl).1; omega

set_option maxRecDepth 100000 in
theorem Bool_mk (v : Bool) (w : World)  :
    Calls Tryd.prog 40 #[.bool v] w fun e w' => (∃ a c, e = .returned (.agg #[.int .i64 1, .slice a 1 c, .slice none 0 0]) ∧
      Own w.heap.size none w' (.slice a 1 c) (.slice none 0 0) (.mk 1 [if v then 255 else 0] [])) ∧ Below w.heap.size w w' := by
  have key : ∀ x : Int, byte x → Trip ((w.alloc (.cells #[.int .i64 1, .slice (some ⟨w.heap.size + 1, 0, none⟩) 1 1, .slice none 0 0] 25)).alloc (.cells #[.int .u8 x] 5)) w.heap.size 25 (.int .i64 1) (.slice (some ⟨w.heap.size + 1, 0, none⟩) 1 1) (.slice none 0 0) ∧
      Own w.heap.size none ((w.alloc (.cells #[.int .i64 1, .slice (some ⟨w.heap.size + 1, 0, none⟩) 1 1, .slice none 0 0] 25)).alloc (.cells #[.int .u8 x] 5)) (.slice (some ⟨w.heap.size + 1, 0, none⟩) 1 1) (.slice none 0 0) (.mk 1 [x] []) ∧
      Below w.heap.size w ((w.alloc (.cells #[.int .i64 1, .slice (some ⟨w.heap.size + 1, 0, none⟩) 1 1, .slice none 0 0] 25)).alloc (.cells #[.int .u8 x] 5)) := by
    intro x hx
    refine ⟨(Trip.new w _ _ _ _).alloc _, Own.bytes (by decide) ?_ ?_, ((Below.refl _ w).alloc (Nat.le_refl _) _).alloc (by simp) _⟩
    · have := Row.lit8 (w.alloc (.cells #[.int .i64 1, .slice (some ⟨w.heap.size + 1, 0, none⟩) 1 1, .slice none 0 0] 25)) [x] (by simp) (by simpa using hx) 1 rfl
      rw [World.size_alloc] at this
      exact this
    · rintro bb oo nn cc e0 h0
      cases e0; omega
  have HK := Lib.hid key
  clear key
  cases v
  · go_enter Tryd.func40, Tryd.ntmps40
    go_wp2_with fail
    obtain ⟨k1, k2, k3⟩ := HK.out 0 ⟨by decide, by decide⟩
    exact bodyPost_ret (item_ret1 rfl rfl k1) rfl ⟨⟨_, _, rfl, k2⟩, k3⟩
  · go_enter Tryd.func40, Tryd.ntmps40
    go_wp2_with fail
    obtain ⟨k1, k2, k3⟩ := HK.out 255 ⟨by decide, by decide⟩
    exact bodyPost_ret (item_ret1 rfl rfl k1) rfl ⟨⟨_, _, rfl, k2⟩, k3⟩
end Go.Proofs.YtpmiihmhfagfoaaDoor
