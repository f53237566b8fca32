/-
  The texts Ma Mb in one. (Merged by wip/lay12m.py.)
-/
import Derived.Test.YtlaidjgdipacgaaGreatDoorWj
import Derived.Test.YtlaidjgdipacgaaGreatDoorUj
import Derived.OwnWalkIn
import Derived.TacticsInMore

section
namespace Go.Proofs.YtlaidjgdipacgaaGreatDoor
open Go.RowKit Go.Shelf
attribute [local go_sem] Oper.semAt_some

/-- An own slice's block. -/
theorem own_at2 {w : World} {base : Nat} {e : TypeId} {sz n : Nat} {v : Value} {xs : List Value} (h : w.ownsRow base e sz v n xs) (hn : n ≠ 0) : ∃ g cap, v = .slice (some ⟨g, 0, none⟩) n cap ∧ base ≤ g ∧ g < w.heap.size := by
  rcases h.2 with ⟨rfl, h0⟩ | ⟨g, cap, cur, rfl, hb, hg, _⟩
  · exact absurd h0 hn
  · exact ⟨g, cap, rfl, hb, (Array.getElem?_eq_some_iff.1 hg).1⟩
theorem info_sum : (Tryz.prog.info? 53).map (fun i => (i.zero, i.size, i.bytes)) = some (some (.agg #[.int .u64 0, .int .u64 0]), 2, 16) := by kernel_rfl
set_option maxRecDepth 100000 in
set_option maxHeartbeats 2000000 in
theorem CloneSum_one (x y : Int) (b o c : Nat) (w : World) (hb : b < w.heap.size) (h0 : w.cell? ⟨b, o, none⟩ = some (.int .u64 x)) (h1 : w.cell? ⟨b, o + 1, none⟩ = some (.int .u64 y)) :
    Calls Tryz.prog 82 #[.slice (some ⟨b, o, none⟩) 1 c] w fun e w' => (∃ g c', e = .returned (.slice (some ⟨g, 0, none⟩) 1 c') ∧ g < w'.heap.size ∧ w'.cell? ⟨g, 0, none⟩ = some (.int .u64 x) ∧ w'.cell? ⟨g, 1, none⟩ = some (.int .u64 y)) ∧ Below w.heap.size w w' := by
  have hq := Lib.run_eql_slice_nil (P := Tryz.prog) (t := 59) (e := 53)
  obtain ⟨i0, gi, gz0, gz1, gz2⟩ := info_parts info_sum
  have own0 : (w.alloc (.cells #[] 53)).ownsRow w.heap.size 53 2 (.slice (some ⟨w.heap.size, 0, none⟩) 0 0) 0 [] := World.ownsRow_made w #[] 0 (Nat.le_refl _) (Nat.zero_le _) rfl
  have hb0 := (Below.refl w.heap.size w).alloc (Nat.le_refl _) (.cells #[] 53)
  have k0 : (w.alloc (.cells #[] 53)).cell? ⟨b, o, none⟩ = some (.int .u64 x) := (hb0.cell (p := ⟨b, o, none⟩) hb).trans h0
  have k1 : (w.alloc (.cells #[] 53)).cell? ⟨b, o + 1, none⟩ = some (.int .u64 y) := (hb0.cell (p := ⟨b, o + 1, none⟩) hb).trans h1
  have HB := Lib.hid hb0; have HK0 := Lib.hid k0; have HK1 := Lib.hid k1; have HO := Lib.hid own0
  clear own0 hb0 k0 k1 h0 h1
  go_enter Tryz.func82, Tryz.ntmps82
  go_wp2_with (first
    | (at_builtin
       refine wpList_append_own _ rfl (.tmp 5) (.tmp 6) 59 rfl w.heap.size 53 i0 (.agg #[.int .u64 0, .int .u64 0]) 2 16 Tryz.underlying59 gi gz0 gz1 gz2 rfl (by decide) _ _ _ rfl HO.out ⟨b, o, none⟩ 1 c [.int .u64 x, .int .u64 y] rfl rfl (by
         intro j u hu
         match j, hu with
         | 0, hu => simp at hu; subst hu; rw [addr_add]; exact HK0.out
         | 1, hu => simp at hu; subst hu; rw [addr_add]; exact HK1.out) (by intro u hu; simp at hu; rcases hu with rfl | rfl <;> rfl) (by unfold maxLen; omega) (by omega) (by simp) ?_
       intro v' w2 hown' hgrow _)
    | fail)
  obtain ⟨g, cap, rfl, hg, hlt⟩ := own_at2 hown' (by decide)
  go_ret
  have hc := hown'.cells (g := g) rfl
  have e0 := hc 0 _ rfl
  have e1 := hc 1 _ rfl
  rw [addr_add] at e0 e1
  exact ⟨⟨g, cap, rfl, hlt, e0, e1⟩, HB.out.grown hgrow (by simp) (fun k e => own_above HO.out e)⟩

theorem len_one (w : World) : Calls Tryz.prog 81 #[.int .u64 1] w fun e w' => e = .returned (.int .i64 1) ∧ w' = w := by
  have L := Sh.bits_Len64 1 w (by omega) (by omega)
  rw [show ((Lib.bitLen (Int.toNat 1) : Nat) : Int) = 1 by decide] at L
  go_enter Tryz.func81, Tryz.ntmps81
  go_wp2_with fail
  refine L.mono ?_; rintro e w1 ⟨rfl, rfl⟩
  go_wp2_with fail
  go_ret
  exact ⟨rfl, rfl⟩
/-- A whole tree of one leaf. -/
def partV (x y : Int) : Value := .agg #[.int .i64 1, .int .u64 x, .int .u64 y]
set_option maxRecDepth 100000 in
set_option maxHeartbeats 2000000 in
theorem parts_in (N : Nat) (hn : 1 ≤ N) (l P n0 : Nat) (hn0 : P < n0) (x y : Int) (b o c : Nat) (J Jx : List Value → World → Prop)
    (hJ : ∀ pre W W', J pre W → Only (OneB P) W W' → J pre W')
    (hY : ∀ pre (z : Value) V0 V, J pre V0 → Below V0.heap.size V0 V → ([partV x y] : List Value)[pre.length]? = some z → YieldAt Fence.wide (N - 1) Tryz.prog l #[z] V fun e V' =>
      (e = .returned (.bool true) ∧ J (pre ++ [z]) V' ∧ Below n0 V V') ∨ (e = .returned (.bool false) ∧ Jx (pre ++ [z]) V'))
    (W : World) (hb : Boxed W P 59 (.slice (some ⟨b, o, none⟩) 1 c)) (hbl : b < W.heap.size) (hc1 : 1 ≤ c) (k0 : W.cell? ⟨b, o, none⟩ = some (.int .u64 x)) (k1 : W.cell? ⟨b, o + 1, none⟩ = some (.int .u64 y)) (h0 : J [] W) :
    CallsIn Fence.wide N Tryz.prog 80 #[.func (.yield l) #[] #[], .pointer (some ⟨P, 0, none⟩)] W fun e W' => (∃ v, e = .returned v) ∧
      ((∃ xs : List Value, xs = [partV x y] ∧ J xs W') ∨ (∃ pre : List Value, True ∧ Jx pre W')) := by
  refine callsIn_of_wp Tryz.func80 rfl trivial ?_ rfl
  simp only [Tryz.ntmps80, List.size_toArray, List.length_cons, List.length_nil, Nat.reduceAdd, Nat.reduceSub, Array.replicate_succ, Array.replicate_zero, List.push_toArray, List.append_toArray, List.nil_append, List.cons_append]
  have c0 := hb.cell
  have C := CloneSum_one x y b o c W hbl k0 k1
  have L := len_one W
  have HB := Lib.hid hb; have HJ := Lib.hid hJ; have H0 := Lib.hid h0; have HY := Lib.hid hY
  clear hb hJ h0 hY k0 k1
  gi_wp2_with fail
  refine wpIn_loop_rounds 2 ?_
  rw [roundsIn_succ]
  gi_wp2_with (first
    | (refine ⟨trivial, ?_⟩; gi_at_call 81; refine (callsIn_wide.2 L).mono ?_; rintro e w1 ⟨rfl, rfl⟩)
    | (refine ⟨trivial, ?_⟩; gi_at_call 82; refine (callsIn_wide.2 C).mono ?_; clear C; rintro e w2 ⟨⟨g, cg, rfl, hg, g0, g1⟩, hb2⟩)
    | fail)
  refine wpIn_loop_rounds 1 ?_
  rw [roundsIn_succ]
  have q2 : Boxed w2 P 59 (.slice (some ⟨b, o, none⟩) 1 c) := (hb2.block P HB.out.lt).trans HB.out
  have J2 : J [] w2 := HJ.out _ _ _ H0.out (Only.of_below hb2 _)
  obtain ⟨fn, tmps, assign, body, hy, hR⟩ := HY.out [] (partV x y) w2 w2 J2 (Below.refl _ _) rfl
  unfold partV at hy
  have hR' := hR.mono (R' := fun e W' => ∃ b, e = .returned (.bool b) ∧ ((b = true ∧ J [partV x y] W' ∧ Below n0 w2 W') ∨ (b = false ∧ Jx [partV x y] W'))) (fun e W' h => by
    rcases h with ⟨rfl, h, hk⟩ | ⟨rfl, h⟩
    · exact ⟨true, rfl, .inl ⟨rfl, h, hk⟩⟩
    · exact ⟨false, rfl, .inr ⟨rfl, h⟩⟩)
  have Q2 := Lib.hid q2
  clear hR HY q2 J2 H0
  gi_wp2_with (first
    | (refine hR'.mono ?_; clear hR'; rintro e W5 ⟨bb, rfl, hc⟩; rcases hc with ⟨rfl, hJ5, hk5⟩ | ⟨rfl, hJx⟩
       have q5 : Boxed W5 P 59 (.slice (some ⟨b, o, none⟩) 1 c) := (hk5.block P hn0).trans Q2.out
       have c5 := q5.cell; have f5 := q5.frozen; have l5 := q5.lt)
    | fail)
  iterate 2
    · rename_i hce
      have step : ∀ a' c', J [partV x y] (W5.setCell ⟨P, 0, none⟩ (.slice a' 0 c')) ∧ (W5.setCell ⟨P, 0, none⟩ (.slice a' 0 c')).cell? ⟨P, 0, none⟩ = some (.slice a' 0 c') := fun a' c' =>
        ⟨HJ.out _ _ _ hJ5 ((Only.refl (OneB P) W5).setCell (p := ⟨P, 0, none⟩) (.inl rfl) _), (q5.set _).cell⟩
      have c7 := fun a' c' => (step a' c').2
      have SJ := Lib.hid (fun a' c' => (step a' c').1)
      clear step q5 c5 f5 l5 hJ5 hk5 hce
      rw [roundsIn_succ]
      gi_wp2_with fail
      go_end0
      exact ⟨⟨_, rfl⟩, .inl ⟨[partV x y], rfl, SJ.out _ _⟩⟩
  · refine bodyPost_ret (results_none rfl _ _ _) rfl ?_
    exact ⟨⟨_, rfl⟩, .inr ⟨[partV x y], trivial, hJx⟩⟩
/-- What the iterator over the whole trees tells. -/
theorem told_parts (x y : Int) (b o c : Nat) (w0 : World) (P n0 : Nat) (hn0 : P < n0) (hb : Boxed w0 P 59 (.slice (some ⟨b, o, none⟩) 1 c)) (hbl : b < w0.heap.size) (hc1 : 1 ≤ c) (k0 : w0.cell? ⟨b, o, none⟩ = some (.int .u64 x)) (k1 : w0.cell? ⟨b, o + 1, none⟩ = some (.int .u64 y)) :
    SeqTold Fence.wide 5 Tryz.prog 80 #[.pointer (some ⟨P, 0, none⟩)] (fun z : Value => #[z]) (OneB P) (fun pre z _ _ => ([partV x y] : List Value)[pre.length]? = some z) (fun _ V V' => Below n0 V V')
    (fun xs => xs = [partV x y]) (fun _ => True) w0 := fun l J Jx X hX hJ _ hY h0 =>
  parts_in 5 (by omega) l P n0 hn0 x y b o c J Jx hJ hY X ((hX.block P hb.lt).trans hb) (Nat.lt_of_lt_of_le hbl hX.size) hc1 ((hX.cell (p := ⟨b, o, none⟩) hbl).trans k0) ((hX.cell (p := ⟨b, o + 1, none⟩) hbl).trans k1) h0
theorem parts_any (v : Value) (a : Option Addr) (n c : Nat) (hv : v = .slice a n c) (w : World) : Calls Tryz.prog 44 #[v] w fun e w' => e = .returned (.func (.func 80) #[] #[.pointer (some ⟨w.heap.size, 0, none⟩)]) ∧ w' = w.alloc (.cells #[v] 59) := by
  subst hv
  go_enter Tryz.func44, Tryz.ntmps44
  go_wp2
  go_ret
  exact ⟨rfl, rfl⟩
end Go.Proofs.YtlaidjgdipacgaaGreatDoor
end

section
namespace Go.Proofs.YtlaidjgdipacgaaGreatDoor
open Go.RowKit Go.Shelf
attribute [local go_sem] Oper.semAt_some

theorem info_part : (Tryz.prog.info? 93).map (fun i => (i.zero, i.size, i.bytes)) = some (some (.agg #[.int .i64 0, .int .u64 0, .int .u64 0]), 3, 24) := by kernel_rfl
theorem owns_keep {W W' : World} {base : Nat} {e : TypeId} {sz n : Nat} {v : Value} {xs : List Value} (h : W.ownsRow base e sz v n xs) (hk : ∀ g cs, v.ownBlock = some g → W.heap[g]? = some (.cells cs e (0, 0)) → W'.heap[g]? = W.heap[g]?) : W'.ownsRow base e sz v n xs := by
  refine ⟨h.1, ?_⟩
  rcases h.2 with h1 | ⟨g, cap, cur, rfl, hb, hg, r⟩
  · exact .inl h1
  · exact .inr ⟨g, cap, cur, rfl, hb, (hk g cur rfl hg).trans hg, r⟩
/-- A part's three cells. -/
def partC (x y : Int) : List Value := [.int .i64 1, .int .u64 x, .int .u64 y]
theorem only_grown {S : Nat → Prop} {w X Y : World} {row : Option Nat} (h : Only S w X) (hg : X.grownBy Y row) (hr : ∀ r, row = some r → w.heap.size ≤ r) : Only S w Y :=
  ⟨hg.os.trans h.os, hg.tape.trans h.tape, hg.output.trans h.output, Nat.le_trans h.size hg.size, fun k hk hs => (hg.block k (Nat.lt_of_lt_of_le hk h.size) (fun e => by have := hr k e.symm; omega)).trans (h.block k hk hs)⟩
def PtI (P B n1 : Nat) (w : World) (x y : Int) (pre : List Value) (X : World) : Prop :=
  ((pre = [] ∧ Boxed X B 90 (.slice none 0 0)) ∨ (pre = [partV x y] ∧ ∃ v, Boxed X B 90 v ∧ X.ownsRow n1 93 3 v 1 (partC x y))) ∧ Only (OneB P) w X
theorem cells_new3 (w : World) (x y z : Value) (t : TypeId) : ∀ j u, ([x, y, z] : List Value)[j]? = some u → (w.alloc (.cells #[x, y, z] t)).cell? ((⟨w.heap.size, 0, none⟩ : Addr).add j) = some u := fun j u h =>
  World.news_of_block (show (w.alloc (.cells #[x, y, z] t)).heap[w.heap.size]? = some (.cells #[x, y, z] t (0, 0)) from World.alloc_heap_new w _) j u h

set_option maxRecDepth 100000 in
set_option maxHeartbeats 4000000 in
theorem AppendSeq_one (x y : Int) (P : Nat) (w : World) (hP : P < w.heap.size)
    (hsp : ∀ w0, Below w.heap.size w w0 → SeqTold Fence.wide 5 Tryz.prog 80 #[.pointer (some ⟨P, 0, none⟩)] (fun z : Value => #[z]) (OneB P) (fun pre z _ _ => ([partV x y] : List Value)[pre.length]? = some z) (fun _ V V' => Below w.heap.size V V') (fun xs => xs = [partV x y]) (fun _ => True) w0) :
    Calls Tryz.prog 79 #[.slice none 0 0, .func (.func 80) #[] #[.pointer (some ⟨P, 0, none⟩)]] w fun e w' => (∃ v, e = .returned v ∧ w'.ownsRow w.heap.size 93 3 v 1 (partC x y)) ∧ Only (OneB P) w w' := by
  obtain ⟨i0, gi, gz0, gz1, gz2⟩ := info_parts info_part
  obtain ⟨B, hB⟩ : ∃ B, w.heap.size = B := ⟨_, rfl⟩
  have p0 := Boxed.new w 90 (.slice none 0 0)
  obtain ⟨W0, hW0⟩ : ∃ W, w.alloc (.cells #[.slice none 0 0] 90) = W := ⟨_, rfl⟩
  have hb0 : Below w.heap.size w W0 := by rw [← hW0]; exact (Below.refl _ _).alloc (Nat.le_refl _) _
  have sz0 : W0.heap.size = B + 1 := by rw [← hW0]; simp [hB]
  rw [hW0, hB] at p0
  have Hsq := Lib.hid (hsp W0 hb0)
  have HW := Lib.hid hW0; have HB := Lib.hid hB; have HB0 := Lib.hid hb0; have P0 := Lib.hid p0; have SZ0 := Lib.hid sz0
  rw [hB] at hP
  clear hsp hW0 hb0 p0 sz0
  refine (callsIn_wide (n := 6)).1 ?_
  refine callsIn_of_wp_marks Tryz.func79 rfl trivial ?_ rfl
  simp only [Tryz.ntmps79, List.size_toArray, List.length_cons, List.length_nil, Nat.reduceAdd, Nat.reduceSub, Array.replicate_succ, Array.replicate_zero, List.push_toArray, List.append_toArray, List.nil_append, List.cons_append]
  gi_wp2_with fail
  rw [show w.alloc (.cells #[.slice none 0 0] 90) = W0 from HW.out]
  refine wpIn_told rfl (by omega) (gf := 80) (lb := #[.pointer (some ⟨P, 0, none⟩)]) rfl trivial (enters_of Tryz.func80 (by kernel_rfl) rfl)
    Hsq.out ?kb (Below.refl _ _) (fun _ => rfl) (PtI P B W0.heap.size w x y) (fun _ _ _ => False) (fun k hk => by have := SZ0.out; unfold OneB at hk; omega) ?hi ?hix ?hib ?hixb ⟨.inl ⟨rfl, P0.out⟩, Only.of_below HB0.out _⟩ ?round ?done ?stop
  case kb => exact fun xs A X l o o' h hl ho hc hw => h.trans (belowK_b (w := W0) HB0.out.size X l o o' hl ho hc hw)
  case hi =>
    rintro pre A X row ⟨h, ho⟩ hg hr
    have hrow : ∀ k o, A.heap[k]? = some o → o.isCells = true → some k ≠ row := fun k o hk hc e => by
      obtain ⟨-, o', h1, h2⟩ := hr k e.symm
      rw [hk] at h1; cases h1; rw [hc] at h2; cases h2
    have hbx : ∀ v, Boxed A B 90 v → Boxed X B 90 v := fun v h => h.kept hg (hrow B _ h rfl)
    refine ⟨?_, only_grown ho hg (fun r e => by have := (hr r e).1; have := HB0.out.size; omega)⟩
    rcases h with ⟨h1, h2⟩ | ⟨h1, v, h2, h3⟩
    · exact .inl ⟨h1, hbx _ h2⟩
    · exact .inr ⟨h1, v, hbx _ h2, owns_keep h3 fun g cs _ hk => hg.block g (Array.getElem?_eq_some_iff.1 hk).1 (hrow g _ hk rfl)⟩
  case hix => exact fun _ _ _ _ _ h _ _ => h
  case hib =>
    rintro pre A X ⟨h, ho⟩ hon
    have hsz := SZ0.out
    refine ⟨?_, ho.trans hon⟩
    rcases h with ⟨h1, h2⟩ | ⟨h1, v, h2, h3⟩
    · exact .inl ⟨h1, hon.boxed h2 (by unfold OneB; omega)⟩
    · exact .inr ⟨h1, v, hon.boxed h2 (by unfold OneB; omega), owns_keep h3 fun g cs e hk => hon.block g (Array.getElem?_eq_some_iff.1 hk).1 (by have := own_above h3 e; unfold OneB; omega)⟩
  case hixb => exact fun _ _ _ _ h _ => h
  case round =>
    rintro l pre z W2 X hl ⟨hI, ho⟩ hbw hR ⟨r, hr⟩
    dsimp only at hR ⊢
    have hpre : pre = [] ∧ z = partV x y := by
      match pre, hR with
      | [], hR => simp at hR; exact ⟨rfl, hR.symm⟩
      | _ :: _, hR => simp at hR
    obtain ⟨rfl, rfl⟩ := hpre
    have hbox : Boxed W2 B 90 (.slice none 0 0) := by
      rcases hI with ⟨-, h⟩ | ⟨h, -⟩
      · exact h
      · cases h
    have hbX := (hbw.block B hbox.lt).trans hbox
    have hoX := ho.trans (Only.of_below hbw (OneB P))
    have HbX := Lib.hid hbX; have HoX := Lib.hid hoX; have HR := Lib.hid hr
    clear hI hbox hbX hoX hbw hr ho hR
    unfold partV
    gi_wp2
    refine ⟨⟨by simp, fun k o _ hk _ => (Below.heap_alloc X _ k (Array.getElem?_eq_some_iff.1 hk).1).trans hk⟩, fun r' => ?_⟩
    have hr := HR.out
    have hlX := (Array.getElem?_eq_some_iff.1 hr).1
    have hs0 := SZ0.out
    obtain ⟨o5, ho5⟩ : ∃ o5 : Obj, .cells #[.int .i64 1, .int .u64 x, .int .u64 y] 93 (0, 0) = o5 := ⟨_, rfl⟩
    have hra : (X.alloc o5).heap[l]? = some (.loop r) := (Below.heap_alloc X o5 l hlX).trans hr
    have ba : Below W0.heap.size X (X.alloc o5) := (Below.refl _ _).alloc (by omega) _
    have pb : Below W0.heap.size X ((X.alloc o5).putObj l (.loop r')) := ba.trans (belowK_b (w := W0) (Nat.le_refl _) _ l _ _ hl hra rfl rfl)
    have ow2 : Only (OneB P) w ((X.alloc o5).putObj l (.loop r')) := only_grown (HoX.out.alloc o5) (grownBy_putObj' (X.alloc o5) l (.loop r')) (fun q e => by cases e; omega)
    have q2 : Boxed ((X.alloc o5).putObj l (.loop r')) B 90 (.slice none 0 0) := (pb.block B (by omega)).trans HbX.out
    have x5 : ((X.alloc o5).putObj l (.loop r')).heap[X.heap.size]? = some o5 := (World.putObj_heap_other (by omega)).trans (World.alloc_heap_new X o5)
    have sz2 : ((X.alloc o5).putObj l (.loop r')).heap.size = X.heap.size + 1 := by simp [World.putObj]
    subst ho5
    obtain ⟨V2, hV2⟩ : ∃ V, (X.alloc (.cells #[.int .i64 1, .int .u64 x, .int .u64 y] 93 (0, 0))).putObj l (.loop r') = V := ⟨_, rfl⟩
    rw [hV2] at pb ow2 q2 x5 sz2 ⊢
    have c0 : V2.cell? ⟨X.heap.size, 0, none⟩ = some (.int .i64 1) := by simp [World.cell?, x5]
    have c1 : V2.cell? ⟨X.heap.size, 1, none⟩ = some (.int .u64 x) := by simp [World.cell?, x5]
    have c2 : V2.cell? ⟨X.heap.size, 2, none⟩ = some (.int .u64 y) := by simp [World.cell?, x5]
    have l5 : X.heap.size < V2.heap.size := by omega
    have cq := q2.cell; have fq := q2.frozen; have lq := q2.lt
    have PB := Lib.hid pb; have OW := Lib.hid ow2; have Q2 := Lib.hid q2
    have own0 : V2.ownsRow W0.heap.size 93 3 (.slice none 0 0) 0 [] := ⟨rfl, .inl ⟨rfl, rfl⟩⟩
    clear pb ow2 q2 x5 hV2 hra ba hr sz2
    gi_wp2_with (first
      | (gi_at_builtin; refine wpListIn_append_own _ rfl (.tmp 8) (.tmp 10) 90 rfl W0.heap.size 93 i0 (.agg #[.int .i64 0, .int .u64 0, .int .u64 0]) 3 24 Tryz.underlying90 gi gz0 gz1 gz2 rfl (by decide) _ _ _ rfl (own0.alloc _) ⟨V2.heap.size, 0, none⟩ 1 1 [.int .i64 1, .int .u64 x, .int .u64 y] rfl rfl (cells_new3 V2 _ _ _ _) (by intro u hu; simp at hu; rcases hu with rfl | rfl | rfl <;> rfl) (by unfold maxLen; omega) (by omega) (by have := PB.out.size; simp; omega) ?_
         intro v' w5 hown' hgrow _
         obtain ⟨g, cap, rfl, hg, hgl⟩ := own_at2 hown' (by decide)
         have q5 : Boxed w5 B 90 (.slice none 0 0) := (hgrow.block B (by simp; omega) (fun e => by cases e)).trans ((Below.heap_alloc V2 _ B lq).trans Q2.out)
         have c5 := q5.cell; have f5 := q5.frozen; have l6 := q5.lt)
      | fail)
    have hwB : w.heap.size ≤ B := by omega
    have pbw : Below w.heap.size X V2 := PB.out.mono HB0.out.size
    refine ⟨?_, ?_, .inr ⟨rfl, .slice (some ⟨g, 0, none⟩) 1 cap, q5.set _, ?_⟩, ?_⟩
    · exact (((KeepsOthers.alloc _ _).from _).trans (KeepsFrom.of_grownBy hgrow (fun j e => by cases e))).trans ((KeepsOthers.setCell _ _ _).from _)
    · exact (((pbw.trans ((Below.refl _ _).alloc (by have := HB0.out.size; omega) _))).grown hgrow (by have := HB0.out.size; simp; omega) (fun k e => by cases e)).setCell (p := ⟨B, 0, none⟩) hwB _
    · exact owns_keep hown' fun g' cs e _ => Below.heap_setCell w5 ⟨B, 0, none⟩ _ g' (by have := own_above hown' e; show g' ≠ B; omega)
    · exact (only_grown (OW.out.alloc _) hgrow (fun r e => by cases e)).setCell (p := ⟨B, 0, none⟩) (.inr hwB) _
  case done =>
    rintro D xs X hD rfl ⟨hI, ho⟩ hK
    obtain ⟨v, hv, hown⟩ : ∃ v, Boxed X B 90 v ∧ X.ownsRow W0.heap.size 93 3 v 1 (partC x y) := by
      rcases hI with ⟨h, -⟩ | ⟨-, h⟩
      · cases h
      · exact h
    obtain ⟨g, cap, rfl, hg, hgl⟩ := own_at2 hown (by decide)
    have cv := hv.cell
    have HV := Lib.hid hv; have HO := Lib.hid ho; have HK := Lib.hid hK; have HOW := Lib.hid hown
    clear hI ho hK hv hown
    gi_wp2
    have hs0 := SZ0.out; have hb0 := HB0.out.size
    refine ⟨by simp, .inl ⟨_, _, rfl, run_takeDeferred HK.out, ?_⟩⟩
    refine ⟨_, results_tmp (t := 4) rfl _ _ _, ⟨_, rfl, ?_⟩, only_grown HO.out (grownBy_putObj' X D _) (fun r e => by cases e; omega)⟩
    have h1 := owns_keep (W' := X.putObj D (.deferred none)) HOW.out fun g' cs e hk => World.putObj_heap_other (fun e2 => by rw [e2, HK.out] at hk; cases hk)
    exact ⟨h1.1, h1.2.imp (fun h => h) (fun ⟨g, c, cu, e1, e2, r⟩ => ⟨g, c, cu, e1, by omega, r⟩)⟩
  case stop =>
    rintro D c pre X _ _ h _
    exact h.elim

set_option maxRecDepth 100000 in
theorem Collect_one (x y : Int) (P : Nat) (w : World) (hP : P < w.heap.size)
    (hsp : ∀ w0, Below w.heap.size w w0 → SeqTold Fence.wide 5 Tryz.prog 80 #[.pointer (some ⟨P, 0, none⟩)] (fun z : Value => #[z]) (OneB P) (fun pre z _ _ => ([partV x y] : List Value)[pre.length]? = some z) (fun _ V V' => Below w.heap.size V V') (fun xs => xs = [partV x y]) (fun _ => True) w0) :
    Calls Tryz.prog 43 #[.func (.func 80) #[] #[.pointer (some ⟨P, 0, none⟩)]] w fun e w' => (∃ v, e = .returned v ∧ w'.ownsRow w.heap.size 93 3 v 1 (partC x y)) ∧ Only (OneB P) w w' := by
  have S := AppendSeq_one x y P w hP hsp
  clear hsp
  go_enter Tryz.func43, Tryz.ntmps43
  go_wp2_with fail
  refine S.mono ?_; rintro e w1 ⟨⟨v, rfl, hv⟩, ho⟩
  obtain ⟨g, cap, rfl, hg, hgl⟩ := own_at2 hv (by decide)
  have HV := Lib.hid hv
  clear hv
  go_wp2_with fail
  go_ret
  exact ⟨⟨_, rfl, HV.out⟩, ho⟩
theorem Reverse_one (a : Option Addr) (c : Nat) (w : World) : Calls Tryz.prog 45 #[.slice a 1 c] w fun e w' => (∃ v, e = .returned v) ∧ w' = w := by
  go_enter Tryz.func45, Tryz.ntmps45
  go_wp2_with fail
  refine wp_loop_rounds 1 ?_
  rw [rounds_succ]
  go_wp2_with fail
  go_end0
  exact ⟨⟨_, rfl⟩, rfl⟩

set_option maxRecDepth 100000 in
set_option maxHeartbeats 2000000 in
theorem Root_one (x y : Int) (b c : Nat) (w : World) (hb : b < w.heap.size) (hc1 : 1 ≤ c) (k0 : w.cell? ⟨b, 0, none⟩ = some (.int .u64 x)) (k1 : w.cell? ⟨b, 1, none⟩ = some (.int .u64 y)) :
    Calls Tryz.prog 16 #[.slice (some ⟨b, 0, none⟩) 1 c] w fun e w' => e = .returned (.agg #[.int .u64 x, .int .u64 y]) ∧ Below w.heap.size w w' := by
  obtain ⟨B, hB⟩ : ∃ B, w.heap.size = B := ⟨_, rfl⟩
  have d0 := Duo.new w 53 (.int .u64 0) (.int .u64 0)
  have hb0 := (Below.refl w.heap.size w).alloc (Nat.le_refl _) (.cells #[.int .u64 0, .int .u64 0] 53)
  obtain ⟨W, hW⟩ : ∃ W, w.alloc (.cells #[.int .u64 0, .int .u64 0] 53) = W := ⟨_, rfl⟩
  have sz : W.heap.size = B + 1 := by rw [← hW]; simp [hB]
  rw [hW] at d0 hb0
  have HD := Lib.hid d0; have HB0 := Lib.hid hb0; have HW := Lib.hid hW; have SZ := Lib.hid sz; have K0 := Lib.hid k0; have K1 := Lib.hid k1; have HBl := Lib.hid hb; have HB := Lib.hid hB
  clear d0 hb0 hW sz k0 k1 hb hB
  go_enter Tryz.func16, Tryz.ntmps16
  go_wp2_with fail
  rw [show w.alloc (.cells #[.int .u64 0, .int .u64 0] 53) = W from HW.out, HB.out]
  refine (parts_any _ _ _ _ rfl W).mono ?_; rintro e w1 ⟨rfl, hw1⟩
  have p1 := Boxed.new W 59 (.slice (some ⟨b, 0, none⟩) 1 c)
  have hb1 : Below W.heap.size W w1 := by rw [hw1]; exact (Below.refl _ _).alloc (Nat.le_refl _) _
  have sz1 : w1.heap.size = B + 2 := by rw [hw1]; simp [SZ.out]
  rw [← hw1, SZ.out] at p1
  rw [SZ.out]
  have bW : Below w.heap.size w w1 := HB0.out.trans (hb1.mono HB0.out.size)
  have hwB := HB.out
  have C := Collect_one x y (B + 1) w1 (by omega) (fun w0 h0 => told_parts x y b 0 c w0 (B + 1) w1.heap.size (by omega) ((h0.block (B + 1) (by omega)).trans p1) (by have := HBl.out; have := h0.size; omega) hc1 (((h0.cell (p := ⟨b, 0, none⟩) (by have := HBl.out; show b < _; omega)).trans (bW.cell (p := ⟨b, 0, none⟩) HBl.out)).trans K0.out) (((h0.cell (p := ⟨b, 1, none⟩) (by have := HBl.out; show b < _; omega)).trans (bW.cell (p := ⟨b, 1, none⟩) HBl.out)).trans K1.out))
  have D1 : Duo w1 B 53 (.int .u64 0) (.int .u64 0) := by have := HD.out; rw [HB.out] at this; exact this.stp hb1
  have HD1 := Lib.hid D1; have BW := Lib.hid bW; have S1 := Lib.hid sz1
  clear p1 hb1 hw1 HW D1 bW sz1
  go_wp2_with fail
  refine C.mono ?_; rintro e w2 ⟨⟨v, rfl, hv⟩, ho⟩
  obtain ⟨g, cap, rfl, hg, hgl⟩ := own_at2 hv (by decide)
  have ob : Below w.heap.size w w2 := BW.out.trans (ho.to_below BW.out.size (fun k hk => by unfold OneB; omega))
  have hs1 := S1.out
  have D2 : Duo w2 B 53 (.int .u64 0) (.int .u64 0) := (ho.block B (by omega) (by unfold OneB; omega)).trans HD1.out
  have hcs := hv.cells (g := g) rfl
  have e1 := hcs 1 _ rfl
  have e2 := hcs 2 _ rfl
  rw [addr_add] at e1 e2
  have cap1 : 1 ≤ cap := by
    rcases hv.2 with ⟨h, _⟩ | ⟨g', cap', cur, h, _, _, hn, _⟩
    · cases h
    · cases h; exact hn
  have OB := Lib.hid ob; have HD2 := Lib.hid D2
  clear C hv ho ob D2 hcs HD1
  go_wp2_with fail
  refine (Reverse_one _ _ _).mono ?_; rintro e w3 ⟨⟨v3, rfl⟩, rfl⟩
  have c0 := HD2.out.cell0; have c1 := HD2.out.cell1; have f0 := HD2.out.free 0; have f1 := HD2.out.free 1; have lB := HD2.out.lt
  go_wp2_with fail
  all_goals
    refine wp_loop_rounds 1 ?_
    rw [rounds_succ]
    go_wp2_with fail
    refine bodyPost_ret (results_cell_row (p := 2) (ty := 53) rfl _ _ B _ _ _ _ rfl (((HD2.out.set0 (.int .u64 x)).set1 (.int .u64 y)).alloc _) rfl rfl rfl) rfl ⟨rfl, ?_⟩
    have q := (OB.out.setCell (p := ⟨B, 0, none⟩) (by show w.heap.size ≤ B; omega) (.int .u64 x)).setCell (p := ⟨B, 1, none⟩) (by show w.heap.size ≤ B; omega) (.int .u64 y)
    exact q.alloc q.size _

def tLeaf : List Int := [108, 101, 97, 102]
theorem tag_leaf : Lib.strCells { data := #[108, 101, 97, 102] } = tLeaf.map (Value.int .u8) := by kernel_rfl
/-- The sum of a leaf. -/
def leafSum (l : List Int) : Hm.St := Hm.sum (Sm.tagged tLeaf [l])
set_option maxRecDepth 100000 in
set_option maxHeartbeats 2000000 in
theorem Leaf_any (v : Value) (l : List Int) (w : World) (h : Row .u8 w v l) (hl : l.length ≤ 10000) :
    Calls Tryz.prog 15 #[v] w fun e w' => e = .returned (.agg #[.int .u64 (leafSum l).a, .int .u64 (leafSum l).b]) ∧ Below w.heap.size w w' := by
  obtain ⟨n, hn⟩ : ∃ n, l.length = n := ⟨_, rfl⟩
  obtain ⟨a, c, rfl⟩ := h.shape n hn
  obtain ⟨B, hB⟩ : ∃ B, w.heap.size = B := ⟨_, rfl⟩
  have d0 := (Duo.new w 53 (.int .u64 0) (.int .u64 0)).alloc (.cells #[.slice a n c] 22)
  have hb0 := ((Below.refl w.heap.size w).alloc (Nat.le_refl _) (.cells #[.int .u64 0, .int .u64 0] 53)).alloc (by simp) (.cells #[.slice a n c] 22)
  have C := Tagged_any _ tLeaf tag_leaf rfl (bytes_of_all (by decide)) (by decide) _ [l] _ (Rws.of1 (h.alloc (.cells #[.int .u64 0, .int .u64 0] 53)) 22) (fun i hi => by
    match i, hi with
    | 0, _ => simpa using hl) (by simp)
  unfold leafSum
  obtain ⟨S, hS⟩ : ∃ S, Hm.sum (Sm.tagged tLeaf [l]) = S := ⟨_, rfl⟩
  rw [hS] at C ⊢
  clear hS
  obtain ⟨x, y⟩ := S
  dsimp only at C ⊢
  rw [hB] at d0
  rw [World.size_alloc, hB] at C
  have HD := Lib.hid d0; have HB0 := Lib.hid hb0; have HB := Lib.hid hB
  clear h hl hn d0 hb0
  go_enter Tryz.func15, Tryz.ntmps15
  go_wp2_with fail
  refine C.mono ?_; rintro e w1 ⟨rfl, hb1⟩
  have d1 := HD.out.stp hb1
  have bW := HB0.out.trans (hb1.mono HB0.out.size)
  have c0 := d1.cell0; have c1 := d1.cell1; have f0 := d1.free 0; have f1 := d1.free 1; have lB := d1.lt
  have D1 := Lib.hid d1; have BW := Lib.hid bW
  clear C hb1 d1 bW
  go_wp2_with fail
  refine bodyPost_ret (results_cell_row (p := 2) (ty := 53) rfl _ _ B _ _ _ _ rfl ((D1.out.set0 (.int .u64 x)).set1 (.int .u64 y)) rfl rfl rfl) rfl ⟨rfl, ?_⟩
  have hwB := HB.out
  exact (BW.out.setCell (p := ⟨B, 0, none⟩) (by show w.heap.size ≤ B; omega) (.int .u64 x)).setCell (p := ⟨B, 1, none⟩) (by show w.heap.size ≤ B; omega) (.int .u64 y)
end Go.Proofs.YtlaidjgdipacgaaGreatDoor
end
