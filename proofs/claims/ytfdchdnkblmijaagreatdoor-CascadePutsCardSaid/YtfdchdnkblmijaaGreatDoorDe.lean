/-
  Walks over der.content and der.put: they call each other.
-/
import Derived.Test.YtfdchdnkblmijaaGreatDoorDd
namespace Go.Proofs.YtfdchdnkblmijaaGreatDoor
open Go.RowKit

theorem cat_take {l : List Dm.It} {k : Nat} (hk : k < l.length) : Dm.cat (l.take (k + 1)) = Dm.cat (l.take k) ++ Dm.bytes (l[k]?.getD Dm.no) := by
  rw [List.take_add_one, List.getElem?_eq_getElem hk, Dm.cat_append]
  simp [Dm.cat]
theorem lens_append (l m : List Dm.It) : Dm.lens (l ++ m) = Dm.lens l + Dm.lens m := by
  rw [← Dm.cat_len, Dm.cat_append, List.length_append, Dm.cat_len, Dm.cat_len]
theorem lens_take {l : List Dm.It} {k : Nat} (hk : k < l.length) : Dm.lens (l.take k) + Dm.len (l[k]?.getD Dm.no) ≤ Dm.lens l := by
  have h : l = l.take (k + 1) ++ l.drop (k + 1) := (List.take_append_drop _ _).symm
  have h2 : Dm.lens (l.take (k + 1)) = Dm.lens (l.take k) + Dm.len (l[k]?.getD Dm.no) := by
    rw [← Dm.cat_len, cat_take hk, List.length_append, Dm.cat_len, Dm.bytes_len]
  have h3 := congrArg Dm.lens h
  rw [lens_append] at h3
  omega
/-- What is asked of a call of put on an item. -/
def PutOn (x : Dm.It) : Prop := (∀ z ∈ Dm.bytes x, byte z) → ∀ (w0 w : World) (vb vl bv : Value) (ms : List Int), Below w0.heap.size w0 w → ItP w0 vb vl x → OwnB w w0.heap.size bv ms → ms.length + Dm.len x ≤ 1000000 →
  Calls Tryz.prog 55 #[bv, .agg #[.int .i64 x.tag, vb, vl]] w fun e w' => (∃ v', e = .returned v' ∧ OwnB w' w0.heap.size v' (ms ++ Dm.bytes x)) ∧ Below w0.heap.size w w'

set_option maxRecDepth 100000 in
set_option maxHeartbeats 2000000 in
theorem content_any (x : Dm.It) (hP : ∀ y ∈ x.l, PutOn y) (hz : ∀ z ∈ x.b ++ Dm.cat x.l, byte z) (hlen : x.b.length + Dm.lens x.l ≤ 1000000) (hll : x.l.length ≤ 1000000) (vb vl : Value) (w : World) (hp : ItP w vb vl x) :
    Calls Tryz.prog 82 #[.agg #[.int .i64 x.tag, vb, vl]] w fun e w' => (∃ v', e = .returned v' ∧ OwnB w' w.heap.size v' (x.b ++ Dm.cat x.l)) ∧ Below w.heap.size w w' := by
  obtain ⟨ab, cb, rfl⟩ := hp.2.1.shape x.b.length rfl
  obtain ⟨al, cl, rfl⟩ := hp.2.2.shape
  obtain ⟨T, hT⟩ : ∃ T, x.tag = T := ⟨_, rfl⟩
  rw [hT]
  obtain ⟨G, hG⟩ : ∃ G, w.heap.size = G := ⟨_, rfl⟩
  have q0 := Trip.new w 45 (.int .i64 T) (.slice ab x.b.length cb) (.slice al x.l.length cl)
  have hb0 := (Below.refl w.heap.size w).alloc (Nat.le_refl _) (.cells #[.int .i64 T, .slice ab x.b.length cb, .slice al x.l.length cl] 45)
  obtain ⟨W, hW⟩ : ∃ W, w.alloc (.cells #[.int .i64 T, .slice ab x.b.length cb, .slice al x.l.length cl] 45) = W := ⟨_, rfl⟩
  rw [hW] at q0 hb0
  rw [hG] at q0
  have HP := Lib.hid hp; have HW := Lib.hid hW; have HG := Lib.hid hG; have HQ := Lib.hid hP; have HZ := Lib.hid hz
  have hC := Clone8_any _ x.b W (hp.below hb0).2.1 (by omega)
  have c1 := q0.cell1; have c2 := q0.cell2
  clear hp hW hG hT hP hz
  go_enter Tryz.func82, Tryz.ntmps82
  go_wp2_with fail
  rw [HW.out]
  (try rw [HG.out])
  (try go_wp2_with fail)
  refine hC.mono ?_; rintro e w1 ⟨r, rfl, own, hb⟩
  have own1 := owns_base own hb0.size
  have hB1 := hb0.trans (hb.mono hb0.size)
  have q1 := trip_stp q0 hb
  clear hC own hb hb0 q0 c1 c2
  have c1 := q1.cell1; have c2 := q1.cell2
  go_wp2_with fail
  go_loopw [3, 5, 12] (fun bv _ i wr => ∃ k : Nat, i = .int .i64 k ∧ k ≤ x.l.length ∧ OwnB wr w.heap.size bv (x.b ++ Dm.cat (x.l.take k)) ∧ Below w.heap.size w wr) (fun _ _ i _ => x.l.length - (intOf i).toNat)
  case atStart => exact ⟨0, rfl, Nat.zero_le _, by simpa [Dm.cat] using own1, hB1⟩
  case round =>
    obtain ⟨k, rfl, hk, own, hb⟩ := hrel
    have HO := Lib.hid own
    clear own own1 c1 c2 q1
    have k0 : (0 : Int) ≤ (k : Int) := by omega
    have e1 : IntKind.i64.wrap ((k : Int) + 1) = (k : Int) + 1 := IntWalk.i64_in _ (by omega)
    by_cases hlt : k < x.l.length
    · have k1 : (k : Int) < (x.l.length : Int) := by omega
      obtain ⟨b, off, ab2, cb2, al2, cl2, rfl, hbl, x0, x1, x2, hpy⟩ := HP.out.2.2.at_ k hlt
      have x0 := (hb.cell (p := ⟨b, _, none⟩) hbl).trans x0
      have x1 := (hb.cell (p := ⟨b, _, none⟩) hbl).trans x1
      have x2 := (hb.cell (p := ⟨b, _, none⟩) hbl).trans x2
      have htk := cat_take hlt
      have hln := lens_take hlt
      obtain ⟨y, hy⟩ : ∃ y, x.l[k]?.getD Dm.no = y := ⟨_, rfl⟩
      rw [hy] at x0 x1 x2 hpy htk hln
      have hmem : y ∈ x.l := by rw [← hy, List.getElem?_eq_getElem hlt]; exact List.getElem_mem hlt
      have hzy : ∀ z ∈ Dm.bytes y, byte z := fun z hz => HZ.out z (List.mem_append_right _ (by rw [← List.take_append_drop (k + 1) x.l, Dm.cat_append, htk]; exact List.mem_append_left _ (List.mem_append_right _ hz)))
      have HY := Lib.hid (HQ.out y hmem hzy); have HT := Lib.hid htk; have HPY := Lib.hid hpy
      have hcl : (x.b ++ Dm.cat (x.l.take k)).length + Dm.len y ≤ 1000000 := by rw [List.length_append, Dm.cat_len]; omega
      have HC := Lib.hid hcl
      have hbr := hb.size
      have own2 := HO.out.alloc (.cells #[.int .i64 y.tag, .slice ab2 y.b.length cb2, .slice al2 y.l.length cl2] 45)
      have hb2 := hb.alloc hb.size (.cells #[.int .i64 y.tag, .slice ab2 y.b.length cb2, .slice al2 y.l.length cl2] 45)
      have HO2 := Lib.hid own2
      have HB2 := Lib.hid hb2
      clear hy hmem hzy htk hpy hln hcl own2 hb2
      go_wp2_with fail
      refine (HY.out w _ _ _ _ _ HB2.out HPY.out HO2.out HC.out).mono ?_; rintro e w3 ⟨⟨v', rfl, own3⟩, hb3⟩
      have hB3 := HB2.out.trans hb3
      rw [List.append_assoc, ← HT.out] at own3
      have HO3 := Lib.hid own3
      clear own3 hb3 x0 x1 x2
      go_wp2_with fail
      go_roundw
      case rel => exact ⟨k + 1, by go_num, by omega, HO3.out, hB3⟩
      case measure => simp [intOf]; omega
    · obtain rfl : k = x.l.length := by omega
      go_wp2_with fail
      go_ret
      exact ⟨⟨_, rfl, by have := HO.out; rwa [List.take_length] at this⟩, hb⟩

theorem bytes_eq (x : Dm.It) : Dm.bytes x = [x.tag] ++ Dm.lenB (x.b ++ Dm.cat x.l).length ++ (x.b ++ Dm.cat x.l) := by
  cases x; rw [Dm.bytes, List.length_append, Dm.cat_len]; rfl
theorem len_eq (x : Dm.It) : Dm.len x = 1 + (Dm.lenB (x.b ++ Dm.cat x.l).length).length + (x.b ++ Dm.cat x.l).length := by
  rw [← Dm.bytes_len, bytes_eq]; simp; omega
theorem form_eq (x : Dm.It) : Dm.form x = ((decide (x.tag = 48) || x.l.isEmpty) && Dm.mayB x.tag x.b && Dm.forms x.l) := by cases x; rw [Dm.form]; rfl
theorem forms_mem {l : List Dm.It} {y : Dm.It} (h : Dm.forms l = true) (hy : y ∈ l) : Dm.form y = true := by
  induction l with
  | nil => simp at hy
  | cons x l ih =>
    unfold Dm.forms at h
    rw [Bool.and_eq_true] at h
    rcases List.mem_cons.1 hy with rfl | hy
    · exact h.1
    · exact ih h.2 hy
theorem known_byte {t : Int} (h : Dm.known t = true) : 0 ≤ t ∧ t < 256 := by
  obtain ⟨k, hk, rfl⟩ := (known_iff t).1 h
  match k, hk with
  | 0, _ => decide
  | 1, _ => decide
  | 2, _ => decide
  | 3, _ => decide
  | 4, _ => decide

theorem Row.lit8 (w : World) (l : List Int) (hl : l.length ≤ 1000) (hb : ∀ x ∈ l, byte x) (n : Nat) (hn : l.length = n) : Row .u8 (w.alloc (.cells (l.map (Value.int .u8)).toArray 5)) (.slice (some ⟨w.heap.size, 0, none⟩) n n) l := by
  subst hn
  exact Row.lit .u8 w 5 l (by unfold maxLen; omega) fun x hx => byte_wf_of (hb x hx)
/-- Bytes that are appended to, while others wait. -/
structure PutSt (w0 ws w : World) (v : Value) (ms : List Int) (u : Value) (inn : List Int) : Prop where
  own : OwnB w w0.heap.size v ms
  row : Row .u8 w u inn
  apart : Apart2 v u
  blk : ∀ g, u.ownBlock = some g → g < w.heap.size
  bel : Below w0.heap.size w0 w
  frm : Below w0.heap.size ws w
theorem PutSt.app {w0 ws w w' : World} {v v' u : Value} {ms inn l : List Int} (h : PutSt w0 ws w v ms u inn) (a : Appd w w' w0.heap.size v v' l) : PutSt w0 ws w' v' l u inn :=
  ⟨a.own, a.row h.apart h.row, a.apart h.apart h.blk, fun g hg => Nat.lt_of_lt_of_le (h.blk g hg) a.size, h.bel.trans (a.below h.own h.bel.size), h.frm.trans (a.below h.own h.bel.size)⟩
theorem PutSt.alloc {w0 ws w : World} {v u : Value} {ms inn : List Int} (h : PutSt w0 ws w v ms u inn) (o : Obj) : PutSt w0 ws (w.alloc o) v ms u inn :=
  ⟨h.own.alloc o, h.row.alloc o, h.apart, fun g hg => by have := h.blk g hg; rw [World.size_alloc]; omega, h.bel.alloc h.bel.size o, h.frm.alloc h.bel.size o⟩
theorem wp_put_lit {w0 ws w : World} {bv u : Value} {ms inn : List Int} (st : PutSt w0 ws w bv ms u inn) (l : List Int) (n : Nat) (hn : l.length = n) (hl : n ≤ 1000) (hb : ∀ x ∈ l, byte x) (h63 : ms.length ≤ 9000000)
    {o : Oper} {a : Act} {K : Act → World → Prop} {Q : Exit → Act → World → Prop} (s x : Operand)
    (ho : o.op = .call { callee := .builtin .append, args := #[s, x], argTypes := #[25, 25] })
    (hs : a.eval s = bv) (hx : a.eval x = .slice (some ⟨w.heap.size, 0, none⟩) n n)
    (h : ∀ v' w', PutSt w0 ws w' v' (ms ++ l) u inn → K (a.put o.dst v') w') : o.wp Tryz.prog a (w.alloc (.cells (l.map (Value.int .u8)).toArray 5)) K Q := by
  have st2 := st.alloc (.cells (l.map (Value.int .u8)).toArray 5)
  exact wp_app s x ho w0.heap.size st2.bel.size bv ms hs st2.own _ l (Row.lit8 w l (by omega) hb n hn) hx (by omega) fun v' w' a => h v' w' (st2.app a)
theorem wp_put_row {w0 ws w : World} {bv u : Value} {ms inn : List Int} (st : PutSt w0 ws w bv ms u inn) (h63 : ms.length + inn.length ≤ 10000000)
    {o : Oper} {a : Act} {K : Act → World → Prop} {Q : Exit → Act → World → Prop} (s x : Operand)
    (ho : o.op = .call { callee := .builtin .append, args := #[s, x], argTypes := #[25, 25] })
    (hs : a.eval s = bv) (hx : a.eval x = u)
    (h : ∀ v' w', PutSt w0 ws w' v' (ms ++ inn) u inn → K (a.put o.dst v') w') : o.wp Tryz.prog a w K Q :=
  wp_app s x ho w0.heap.size st.bel.size bv ms hs st.own _ inn st.row hx h63 fun v' w' a => h v' w' (st.app a)
set_option maxRecDepth 100000 in
set_option maxHeartbeats 4000000 in
theorem put_of (x : Dm.It) (hx : 0 ≤ x.tag ∧ x.tag < 256) (hP : ∀ y ∈ x.l, PutOn y) (hll : x.l.length ≤ 1000000) : PutOn x := by
  intro hz w0 w vb vl bv ms hb0 hp hown hlen
  have hp1 := hp.below hb0
  obtain ⟨ab, cb, rfl⟩ := hp.2.1.shape x.b.length rfl
  obtain ⟨al, cl, rfl⟩ := hp.2.2.shape
  have hle := len_eq x
  have hbe := bytes_eq x
  have hz2 : ∀ z ∈ x.b ++ Dm.cat x.l, byte z := fun z h => hz z (by rw [hbe]; exact List.mem_append_right _ h)
  have hC := fun W (h : ItP W (.slice ab x.b.length cb) (.slice al x.l.length cl) x) => content_any x hP hz2 (by rw [len_eq, List.length_append, Dm.cat_len] at hlen; omega) hll _ _ W h
  obtain ⟨inn, hinn⟩ : ∃ inn, x.b ++ Dm.cat x.l = inn := ⟨_, rfl⟩
  obtain ⟨n, hn⟩ : ∃ n, inn.length = n := ⟨_, rfl⟩
  rw [hinn, hn] at hle hbe
  rw [hinn] at hC hz2
  obtain ⟨T, hT⟩ : ∃ T, x.tag = T := ⟨_, rfl⟩
  rw [hT] at hC hx hbe ⊢
  have ew : IntKind.u8.wrap T = T := by rw [IntKind.wrap_u8]; omega
  have hTb : byte T := ⟨hx.1, by omega⟩
  have hll3 := Dm.lenB_length n
  have hlen2 : ms.length + 1 + 3 + n ≤ 1000003 := by rw [hle] at hlen; omega
  have q0 := Trip.new w 45 (.int .i64 T) (.slice ab x.b.length cb) (.slice al x.l.length cl)
  have hb1 := (Below.refl w.heap.size w).alloc (Nat.le_refl _) (.cells #[.int .i64 T, .slice ab x.b.length cb, .slice al x.l.length cl] 45)
  obtain ⟨W, hW⟩ : ∃ W, w.alloc (.cells #[.int .i64 T, .slice ab x.b.length cb, .slice al x.l.length cl] 45) = W := ⟨_, rfl⟩
  have hsz : w.heap.size < W.heap.size := by rw [← hW]; simp
  rw [hW] at q0 hb1
  have c0 := q0.cell0; have c1 := q0.cell1; have c2 := q0.cell2
  have hC2 := hC _ (hp1.below hb1)
  have HE := Lib.hid hbe; have HO := Lib.hid hown; have HW := Lib.hid hW; have HZ := Lib.hid hz2; have HN := Lib.hid hn; have HTb := Lib.hid hTb; have HSz := Lib.hid hsz; have HLL := Lib.hid hll3
  clear hC hbe hle hp hp1 hinn hT hown hW hz hz2 hTb hsz hll3 hP hlen hn
  obtain ⟨G, hG⟩ : ∃ G, w.heap.size = G := ⟨_, rfl⟩
  have HG := Lib.hid hG
  rw [hG] at q0
  clear hG c0 c1 c2
  have c0 := q0.cell0; have c1 := q0.cell1; have c2 := q0.cell2
  go_enter Tryz.func55, Tryz.ntmps55
  go_wp2_with fail
  rw [HW.out]
  (try rw [HG.out])
  (try go_wp2_with fail)
  refine hC2.mono ?_; rintro e w1 ⟨⟨v', rfl, own1⟩, hbc⟩
  have rin := Row.of_bytes own1 HZ.out
  have blk1 := OwnB.blk own1
  have blk0 := OwnB.blk HO.out
  have ap0 : Apart2 bv v' := fun g h1 h2 => by have := (blk0 g h1).2; have := (blk1 g h2).1; have := HSz.out; omega
  obtain ⟨av, cv, rfl⟩ := rin.shape n HN.out
  have q1 := trip_stp q0 hbc
  have hbA : Below w0.heap.size w0 w1 := hb0.trans ((hb1.trans (hbc.mono hb1.size)).mono hb0.size)
  have ownb : OwnB w1 w0.heap.size bv ms := owns_below (owns_below HO.out hb1) hbc
  have hbB : Below w0.heap.size w w1 := (hb1.trans (hbc.mono hb1.size)).mono hb0.size
  have st0 : PutSt w0 w w1 bv ms (.slice av n cv) inn := ⟨ownb, rin, ap0, fun g h => (blk1 g h).2, hbA, hbB⟩
  have ST := Lib.hid st0
  clear c0 c1 c2 q0 own1 rin ap0 ownb blk1 blk0 hbc hb1 hC2 hbA st0 hbB
  have d0 := q1.cell0
  clear q1
  by_cases h1 : n < 128
  · have h1' : (n : Int) < 128 := by omega
    have en : IntKind.u8.wrap (n : Int) = (n : Int) := by rw [IntKind.wrap_u8]; omega
    have HLB : Hid (∀ z ∈ ([(n : Int)] : List Int), byte z) := Lib.hid (by intro z hz; simp at hz; unfold byte; omega)
    go_wp2_with (first
      | (at_builtin; refine wpList_plain rfl fun Kx hKx => ?_; refine wp_put_lit ST.out [T] 1 rfl (by decide) (fun z hz => by rw [List.mem_singleton.1 hz]; exact HTb.out) (by omega) (.tmp 9) (.tmp 13) rfl rfl rfl ?_; intro v1 w2 s1; refine hKx _ _ ?_)
      | (at_builtin; refine wpList_plain rfl fun Kx hKx => ?_; refine wp_put_lit s1 [(n : Int)] 1 rfl (by decide) HLB.out (by simp; omega) (.tmp 28) (.tmp 31) rfl rfl rfl ?_; intro v2 w3 s2; refine hKx _ _ ?_)
      | (at_builtin; refine wpList_plain rfl fun Kx hKx => ?_; refine wp_put_row s2 (by have := HN.out; simp; omega) (.tmp 41) (.tmp 42) rfl rfl rfl ?_; intro v3 w4 s3; refine hKx _ _ ?_)
      | fail)
    go_ret
    have hlb : Dm.lenB n = [(n : Int)] := by unfold Dm.lenB; rw [if_pos h1]
    exact ⟨⟨_, rfl, by have := s3.own; rw [HE.out, hlb, ← List.append_assoc, ← List.append_assoc]; exact this⟩, s3.frm⟩
  have h1' : ¬ (n : Int) < 128 := by omega
  by_cases h2 : n < 256
  · have h2' : (n : Int) < 256 := by omega
    have en : IntKind.u8.wrap (n : Int) = (n : Int) := by rw [IntKind.wrap_u8]; omega
    have HLB : Hid (∀ z ∈ ([129, (n : Int)] : List Int), byte z) := Lib.hid (by intro z hz; simp at hz; unfold byte; omega)
    go_wp2_with (first
      | (at_builtin; refine wpList_plain rfl fun Kx hKx => ?_; refine wp_put_lit ST.out [T] 1 rfl (by decide) (fun z hz => by rw [List.mem_singleton.1 hz]; exact HTb.out) (by omega) (.tmp 9) (.tmp 13) rfl rfl rfl ?_; intro v1 w2 s1; refine hKx _ _ ?_)
      | (at_builtin; refine wpList_plain rfl fun Kx hKx => ?_; refine wp_put_lit s1 [129, (n : Int)] 2 rfl (by decide) HLB.out (by simp; omega) (.tmp 36) (.tmp 39) rfl rfl rfl ?_; intro v2 w3 s2; refine hKx _ _ ?_)
      | (at_builtin; refine wpList_plain rfl fun Kx hKx => ?_; refine wp_put_row s2 (by have := HN.out; simp; omega) (.tmp 41) (.tmp 42) rfl rfl rfl ?_; intro v3 w4 s3; refine hKx _ _ ?_)
      | fail)
    go_ret
    have hlb : Dm.lenB n = [129, (n : Int)] := by unfold Dm.lenB; rw [if_neg h1, if_pos h2]
    exact ⟨⟨_, rfl, by have := s3.own; rw [HE.out, hlb, ← List.append_assoc, ← List.append_assoc]; exact this⟩, s3.frm⟩
  · have h2' : ¬ (n : Int) < 256 := by omega
    have HLB : Hid (∀ z ∈ ([130, ((n / 256 % 256 : Nat) : Int), ((n % 256 : Nat) : Int)] : List Int), byte z) := Lib.hid (by intro z hz; simp at hz; unfold byte; omega)
    go_wp2_with (first
      | (at_builtin; refine wpList_plain rfl fun Kx hKx => ?_; refine wp_put_lit ST.out [T] 1 rfl (by decide) (fun z hz => by rw [List.mem_singleton.1 hz]; exact HTb.out) (by omega) (.tmp 9) (.tmp 13) rfl rfl rfl ?_; intro v1 w2 s1; refine hKx _ _ ?_)
      | (at_builtin; refine wpList_plain rfl fun Kx hKx => ?_; refine wp_put_lit s1 [130, ((n / 256 % 256 : Nat) : Int), ((n % 256 : Nat) : Int)] 3 rfl (by decide) HLB.out (by simp; omega) (.tmp 17) (.tmp 23) rfl rfl rfl ?_; intro v2 w3 s2; refine hKx _ _ ?_)
      | (at_builtin; refine wpList_plain rfl fun Kx hKx => ?_; refine wp_put_row s2 (by have := HN.out; simp; omega) (.tmp 41) (.tmp 42) rfl rfl rfl ?_; intro v3 w4 s3; refine hKx _ _ ?_)
      | fail)
    go_ret
    have hlb : Dm.lenB n = [130, ((n / 256 % 256 : Nat) : Int), ((n % 256 : Nat) : Int)] := by unfold Dm.lenB; rw [if_neg h1, if_neg h2]
    exact ⟨⟨_, rfl, by have := s3.own; rw [HE.out, hlb, ← List.append_assoc, ← List.append_assoc]; exact this⟩, s3.frm⟩

theorem put_any (n : Nat) : ∀ (x : Dm.It), Dm.wt x ≤ n → n ≤ 1000000 → Dm.form x = true → PutOn x := by
  induction n using Nat.strongRecOn with
  | _ n ih =>
    intro x hw hn hf
    have hwt := Dm.wt_eq x
    have hll := Dm.wts_len x.l
    rw [form_eq, Bool.and_eq_true, Bool.and_eq_true] at hf
    refine put_of x (known_byte (Dm.mayB_known hf.1.2)) (fun y hy => ?_) (by omega)
    have := Dm.wts_mem hy
    exact ih (Dm.wt y) (by omega) y (Nat.le_refl _) (by omega) (forms_mem hf.2 hy)
theorem lenB_bytes (n : Nat) : ∀ z ∈ Dm.lenB n, byte z := by
  intro z hz
  unfold Dm.lenB at hz
  unfold byte
  by_cases h1 : n < 128
  · rw [if_pos h1] at hz; simp at hz; omega
  · rw [if_neg h1] at hz
    by_cases h2 : n < 256
    · rw [if_pos h2] at hz; simp at hz; omega
    · rw [if_neg h2] at hz; simp at hz; omega
theorem bytes_of_parts {x : Dm.It} (hf : Dm.form x = true) (hb : ∀ z ∈ x.b, byte z) (hl : ∀ z ∈ Dm.cat x.l, byte z) : ∀ z ∈ Dm.bytes x, byte z := by
  intro z hz
  rw [form_eq, Bool.and_eq_true, Bool.and_eq_true] at hf
  have hk := known_byte (Dm.mayB_known hf.1.2)
  rw [bytes_eq] at hz
  rcases List.mem_append.1 hz with hz | hz
  · rcases List.mem_append.1 hz with hz | hz
    · rw [List.mem_singleton.1 hz]; unfold byte; omega
    · exact lenB_bytes _ z hz
  · rcases List.mem_append.1 hz with hz | hz
    · exact hb z hz
    · exact hl z hz
mutual
theorem len_le' : ∀ x : Dm.It, Dm.len x ≤ 2 * Dm.wt x
  | .mk t b l => by
    have h := lens_le l
    unfold Dm.len Dm.wt
    rw [Dm.lenB_length]
    split
    · omega
    · split <;> omega
theorem lens_le : ∀ l : List Dm.It, Dm.lens l ≤ 2 * Dm.wts l
  | [] => by simp [Dm.lens, Dm.wts]
  | x :: l => by
    have h1 := len_le' x
    have h2 := lens_le l
    unfold Dm.lens Dm.wts; omega
end
mutual
/-- An item's bytes are bytes. -/
theorem ItemAt.bytes {W : World} : ∀ (x : Dm.It) (b o : Nat), ItemAt W b o x → Dm.form x = true → ∀ z ∈ Dm.bytes x, byte z
  | .mk t bs l, b, o, h, hf => by
    unfold ItemAt at h
    obtain ⟨vb, a, c, -, -, -, -, hr, -, -, -, k4⟩ := h
    have hl : ∀ z ∈ Dm.cat l, byte z := by
      by_cases hne : l = []
      · subst hne; simp [Dm.cat]
      · obtain ⟨b', o', -, -, hi⟩ := k4 hne
        rw [form_eq, Bool.and_eq_true] at hf
        exact ItemsAt.bytes l b' o' hi hf.2
    exact bytes_of_parts hf hr.all_byte hl
theorem ItemsAt.bytes {W : World} : ∀ (l : List Dm.It) (b o : Nat), ItemsAt W b o l → Dm.forms l = true → ∀ z ∈ Dm.cat l, byte z
  | [], _, _, _, _ => by simp [Dm.cat]
  | x :: l, b, o, h, hf => by
    unfold ItemsAt at h
    unfold Dm.forms at hf
    rw [Bool.and_eq_true] at hf
    intro z hz
    unfold Dm.cat at hz
    rcases List.mem_append.1 hz with hz | hz
    · exact ItemAt.bytes x b o h.1 hf.1 z hz
    · exact ItemsAt.bytes l b (o + 3) h.2 hf.2 z hz
end
theorem ItP.bytes {W : World} {vb vl : Value} {x : Dm.It} (h : ItP W vb vl x) (hf : Dm.form x = true) : ∀ z ∈ Dm.bytes x, byte z := by
  have hl : ∀ z ∈ Dm.cat x.l, byte z := by
    obtain ⟨a, c, -, -, -, -, h4⟩ := h.2.2
    by_cases hne : x.l = []
    · rw [hne]; simp [Dm.cat]
    · obtain ⟨b', o', -, -, hi⟩ := h4 hne
      rw [form_eq, Bool.and_eq_true] at hf
      exact ItemsAt.bytes x.l b' o' hi hf.2
  exact bytes_of_parts hf h.2.1.all_byte hl
end Go.Proofs.YtfdchdnkblmijaaGreatDoor
