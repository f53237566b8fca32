/-
  Walks over der.Put and der.length.
-/
import Derived.Test.YtfdchdnkblmijaaGreatDoorDe
import Derived.Laws.BitsLemmas
namespace Go.Proofs.YtfdchdnkblmijaaGreatDoor
open Go.RowKit

theorem may_is {x : Dm.It} (h : Dm.may 8 x = true) : Dm.form x = true := by
  rw [Dm.may_form, Bool.and_eq_true] at h; exact h.1
/-- What Put hands back. -/
def Putted (w w' : World) (x : Dm.It) (e : Ending) : Prop :=
  if Dm.may 8 x = true then
    (if Dm.len x ≤ 8192 then ∃ a c, e = .returned (.tuple #[.slice a (Dm.len x) c, .int .i64 0]) ∧ OwnB w' w.heap.size (.slice a (Dm.len x) c) (Dm.bytes x) else e = .returned (.tuple #[.slice none 0 0, .int .i64 2]))
  else e = .returned (.tuple #[.slice none 0 0, .int .i64 1])
set_option maxRecDepth 100000 in
set_option maxHeartbeats 2000000 in
theorem Put_any (x : Dm.It) (hw : Dm.wt x ≤ 400000) (vb vl : Value) (w : World) (hk : KindsAt w) (hp : ItP w vb vl x) :
    Calls Tryz.prog 19 #[.agg #[.int .i64 x.tag, vb, vl]] w fun e w' => Putted w w' x e ∧ Below w.heap.size w w' := by
  have hll := len_le' x
  obtain ⟨ab, cb, rfl⟩ := hp.2.1.shape x.b.length rfl
  obtain ⟨al, cl, rfl⟩ := hp.2.2.shape
  have q0 := Trip.new w 45 (.int .i64 x.tag) (.slice ab x.b.length cb) (.slice al x.l.length cl)
  have hb0 := (Below.refl w.heap.size w).alloc (Nat.le_refl _) (.cells #[.int .i64 x.tag, .slice ab x.b.length cb, .slice al x.l.length cl] 45)
  obtain ⟨G, hG⟩ : ∃ G, w.heap.size = G := ⟨_, rfl⟩
  obtain ⟨W, hW⟩ : ∃ W, w.alloc (.cells #[.int .i64 x.tag, .slice ab x.b.length cb, .slice al x.l.length cl] 45) = W := ⟨_, rfl⟩
  rw [hW] at q0 hb0
  rw [hG] at q0
  have k0 := hk.below hb0; have p0 := hp.below hb0
  have hM := may_any 400000 x _ _ 8 W hw (by omega) (by omega) k0 p0
  have HP := Lib.hid hp; have HW := Lib.hid hW; have HG := Lib.hid hG
  have c0 := q0.cell0; have c1 := q0.cell1; have c2 := q0.cell2
  obtain ⟨m, hm⟩ : ∃ m, Dm.may 8 x = m := ⟨_, rfl⟩
  rw [hm] at hM
  clear hk hp hW hG k0 p0
  cases m with
  | false =>
    have HM := Lib.hid hm
    clear hm
    go_enter Tryz.func19, Tryz.ntmps19
    go_wp2_with fail
    rw [HW.out]
    (try rw [HG.out])
    (try go_wp2_with fail)
    refine hM.mono ?_; rintro e w1 ⟨rfl, hb⟩
    have hB := hb0.trans (hb.mono hb0.size)
    clear hM hb c0 c1 c2
    go_wp2_with fail
    go_ret2
    exact ⟨by unfold Putted; rw [HM.out]; rfl, hB⟩
  | true =>
    have hP := put_any 400000 x hw (by omega) (may_is hm) (HP.out.bytes (may_is hm))
    have HM := Lib.hid hm; have HPP := Lib.hid hP
    have own0 : ∀ V, OwnB V w.heap.size (.slice none 0 0) [] := fun V => World.ownsRow_nil _ _ _ _
    have HO := Lib.hid own0
    have HZ := Lib.hid (HP.out.bytes (may_is hm))
    clear hm hP own0
    go_enter Tryz.func19, Tryz.ntmps19
    go_wp2_with fail
    rw [HW.out]
    (try rw [HG.out])
    (try go_wp2_with fail)
    refine hM.mono ?_; rintro e w1 ⟨rfl, hb⟩
    have hB := hb0.trans (hb.mono hb0.size)
    have q1 := trip_stp q0 hb
    clear hM hb c0 c1 c2 q0
    have c0 := q1.cell0; have c1 := q1.cell1; have c2 := q1.cell2
    go_wp2_with fail
    refine (HPP.out w w1 _ _ _ [] hB HP.out (HO.out w1) (by simp; omega)).mono ?_; rintro e w2 ⟨⟨v', rfl, own⟩, hb⟩
    have hB2 := hB.trans hb
    rw [List.nil_append] at own
    obtain ⟨a, c, rfl⟩ := (Row.of_bytes own HZ.out).shape (Dm.len x) (Dm.bytes_len x)
    have OW := Lib.hid own
    clear own hb c0 c1 c2 q1
    by_cases h8 : Dm.len x ≤ 8192
    · have h8' : ¬ (8192 : Int) < (Dm.len x : Int) := by omega
      go_wp2_with fail
      go_ret2
      exact ⟨by unfold Putted; rw [if_pos HM.out, if_pos h8]; exact ⟨a, c, rfl, OW.out⟩, hB2⟩
    · have h8' : (8192 : Int) < (Dm.len x : Int) := by omega
      go_wp2_with fail
      go_ret2
      exact ⟨by unfold Putted; rw [if_pos HM.out, if_neg h8]; rfl, hB2⟩

theorem or_b8 (x y : Int) (hx0 : 0 ≤ x) (hx1 : x < 1000000) (hy : byte y) : bits .or .i64 (x * 256) y = x * 256 + y := by
  unfold byte at hy
  have two63 : (2 : Int) ^ 63 = 9223372036854775808 := by decide
  exact bits_join .i64 63 (by decide) (fun n h0 h1 => by rw [two63] at h1; exact IntWalk.i64_in n (by omega)) 8 (x * 256) y (by omega) (by show x * 256 % 256 = 0; omega) (by rw [two63]; omega) hy.1 (by show y < 256; omega) (by rw [two63]; omega)
/-- What length hands back. -/
def lenOut : Except Int (Nat × Nat) → Value
  | .error e => .tuple #[.int .i64 0, .int .i64 0, .int .i64 e]
  | .ok (n, k) => .tuple #[.int .i64 n, .int .i64 k, .int .i64 0]
set_option maxRecDepth 100000 in
set_option maxHeartbeats 4000000 in
theorem length_any (v : Value) (l : List Int) (w : World) (h : Row .u8 w v l) (hl : l.length ≤ 1000000) :
    Calls Tryz.prog 105 #[v] w fun e w' => e = .returned (lenOut (Dm.lenR l)) ∧ w = w' := by
  have hby := h.all_byte
  obtain ⟨a, c, rfl⟩ := h.shape l.length rfl
  have hlc : l.length ≤ c := by obtain ⟨_, _, e', hc, _⟩ := h; cases e'; exact hc
  match l, h, hby, hl, hlc with
  | [], _, _, _, _ =>
    go_enter Tryz.func105, Tryz.ntmps105
    go_wp2_with fail
    go_ret3
    exact ⟨rfl, rfl⟩
  | f :: r, h, hby, hl, hlc =>
    obtain ⟨b, o, rfl, hlt, c0⟩ := h.cellAt 0 (by simp)
    simp only [List.getElem?_cons_zero, Option.getD_some, Nat.add_zero] at c0
    have hf := hby f (by simp)
    unfold byte at hf
    obtain ⟨n, hn⟩ : ∃ n, (f :: r).length = n := ⟨_, rfl⟩
    have hrn : r.length + 1 = n := by simpa using hn
    have n1 : 0 < n := by omega
    rw [hn] at hl hlc ⊢
    have H := Lib.hid h; have HRN := Lib.hid hrn; have HN := Lib.hid hn
    obtain ⟨R, hR⟩ : ∃ R, lenOut (Dm.lenR (f :: r)) = R := ⟨_, rfl⟩
    rw [hR]
    have HR := Lib.hid hR
    clear h hn hrn hR
    by_cases h1 : f < 128
    · have hr : R = .tuple #[.int .i64 f, .int .i64 1, .int .i64 0] := by rw [← HR.out, Dm.lenR_cons, if_pos h1]; simp [lenOut]; omega
      subst hr
      go_enter Tryz.func105, Tryz.ntmps105
      go_wp2_with fail
      go_ret3
      exact ⟨rfl, rfl⟩
    · have es : IntKind.i64.wrap (f - 128) = f - 128 := IntWalk.i64_in _ (by omega)
      by_cases h2 : f = 129
      · subst h2
        by_cases hr0 : n = 1
        · have hr : R = .tuple #[.int .i64 0, .int .i64 0, .int .i64 70] := by
            rw [← HR.out, Dm.lenR_cons, if_neg h1, if_pos rfl]
            have := HRN.out
            cases r with | nil => rfl | cons => simp at this; omega
          subst hr hr0
          go_enter Tryz.func105, Tryz.ntmps105
          go_wp2_with fail
          go_ret3
          exact ⟨rfl, rfl⟩
        · have hn2 : 2 ≤ n := by omega
          obtain ⟨x, r', hrr⟩ : ∃ x r', r = x :: r' := by
            have := HRN.out
            cases r with | nil => simp at this; omega | cons x r' => exact ⟨x, r', rfl⟩
          subst hrr
          obtain ⟨_, _, e', _, cx⟩ := H.out.cellAt 1 (by simp)
          cases e'
          simp only [List.getElem?_cons_zero, Option.getD_some, List.getElem?_cons_succ] at cx
          have hx := hby x (by simp)
          unfold byte at hx
          have q1 : ¬ (n : Int) ≤ 1 := by omega
          have q2 : ¬ c = 1 := by omega
          have q3 : 1 < c := by omega
          have z0 : bits .or .i64 0 x = x := by have := or_b8 0 x (by omega) (by omega) hx; simpa using this
          by_cases h3 : x < 128
          · have hr : R = .tuple #[.int .i64 0, .int .i64 0, .int .i64 71] := by rw [← HR.out, Dm.lenR_cons, if_neg h1, if_pos rfl]; simp only; rw [if_pos h3]; rfl
            subst hr
            clear hby
            go_enter Tryz.func105, Tryz.ntmps105
            go_wp2_with fail
            go_loop [2, 8, 38] (fun nv _ iv => (iv = .int .i64 0 ∧ nv = .int .i64 0) ∨ (iv = .int .i64 1 ∧ nv = .int .i64 x)) (fun _ _ iv => 1 - (intOf iv).toNat)
            case atStart => exact .inl ⟨rfl, rfl⟩
            case round =>
              rcases hrel with ⟨rfl, rfl⟩ | ⟨rfl, rfl⟩
              · go_wp2_with fail
                go_round
                case rel => exact .inr ⟨rfl, rfl⟩
                case measure => simp [intOf]
              · go_wp2_with fail
                go_ret3
                exact ⟨rfl, rfl⟩
          · have hr : R = .tuple #[.int .i64 x, .int .i64 2, .int .i64 0] := by rw [← HR.out, Dm.lenR_cons, if_neg h1, if_pos rfl]; simp only; rw [if_neg h3]; simp [lenOut]; omega
            subst hr
            clear hby
            go_enter Tryz.func105, Tryz.ntmps105
            go_wp2_with fail
            go_loop [2, 8, 38] (fun nv _ iv => (iv = .int .i64 0 ∧ nv = .int .i64 0) ∨ (iv = .int .i64 1 ∧ nv = .int .i64 x)) (fun _ _ iv => 1 - (intOf iv).toNat)
            case atStart => exact .inl ⟨rfl, rfl⟩
            case round =>
              rcases hrel with ⟨rfl, rfl⟩ | ⟨rfl, rfl⟩
              · go_wp2_with fail
                go_round
                case rel => exact .inr ⟨rfl, rfl⟩
                case measure => simp [intOf]
              · go_wp2_with fail
                go_ret3
                exact ⟨rfl, rfl⟩
      · by_cases h130 : f = 130
        · subst h130
          by_cases hr0 : n ≤ 2
          · have hr : R = .tuple #[.int .i64 0, .int .i64 0, .int .i64 70] := by
              rw [← HR.out, Dm.lenR_cons, if_neg h1, if_neg h2, if_pos rfl]
              have := HRN.out
              match r, this with
              | [], _ => rfl
              | [_], _ => rfl
              | _ :: _ :: _, this => simp at this; omega
            have q1 : (n : Int) ≤ 2 := by omega
            subst hr
            clear hby
            go_enter Tryz.func105, Tryz.ntmps105
            go_wp2_with fail
            go_ret3
            exact ⟨rfl, rfl⟩
          · obtain ⟨x, y, r', hrr⟩ : ∃ x y r', r = x :: y :: r' := by
              have := HRN.out
              match r, this with
              | [], this => simp at this; omega
              | [_], this => simp at this; omega
              | x :: y :: r', _ => exact ⟨x, y, r', rfl⟩
            subst hrr
            obtain ⟨_, _, e', _, cx⟩ := H.out.cellAt 1 (by simp)
            cases e'
            obtain ⟨_, _, e', _, cy⟩ := H.out.cellAt 2 (by simp)
            cases e'
            simp only [List.getElem?_cons_zero, Option.getD_some, List.getElem?_cons_succ] at cx cy
            have hx := hby x (by simp); have hy := hby y (by simp)
            unfold byte at hx hy
            have q1 : ¬ (n : Int) ≤ 2 := by omega
            have q2 : ¬ c = 1 := by omega
            have q3 : 3 ≤ c := by omega
            have z0 : bits .or .i64 0 x = x := by have := or_b8 0 x (by omega) (by omega) hx; simpa using this
            have z1 : IntKind.i64.wrap (x * 256) = x * 256 := IntWalk.i64_in _ (by omega)
            have z2 : bits .or .i64 (x * 256) y = 256 * x + y := by rw [or_b8 x y (by omega) (by omega) hy]; omega
            have z3 : ¬ (256 * x + y) < 128 ∨ (256 * x + y) < 256 := by omega
            clear z3
            by_cases h3 : 256 * x + y < 256
            · have hr : R = .tuple #[.int .i64 0, .int .i64 0, .int .i64 71] := by rw [← HR.out, Dm.lenR_cons, if_neg h1, if_neg h2, if_pos rfl]; simp only; rw [if_pos h3]; rfl
              subst hr
              clear hby
              by_cases h4 : 256 * x + y < 128
              · skip
                go_enter Tryz.func105, Tryz.ntmps105
                go_wp2_with fail
                go_loop [2, 8, 38] (fun nv _ iv => (iv = .int .i64 0 ∧ nv = .int .i64 0) ∨ (iv = .int .i64 1 ∧ nv = .int .i64 x) ∨ (iv = .int .i64 2 ∧ nv = .int .i64 (256 * x + y))) (fun _ _ iv => 2 - (intOf iv).toNat)
                case atStart => exact .inl ⟨rfl, rfl⟩
                case round =>
                  rcases hrel with ⟨rfl, rfl⟩ | ⟨rfl, rfl⟩ | ⟨rfl, rfl⟩
                  · go_wp2_with fail
                    go_round
                    case rel => exact .inr (.inl ⟨rfl, rfl⟩)
                    case measure => simp [intOf]
                  · go_wp2_with fail
                    go_round
                    case rel => exact .inr (.inr ⟨rfl, rfl⟩)
                    case measure => simp [intOf]
                  · go_wp2_with fail
                    go_ret3
                    exact ⟨rfl, rfl⟩
              · skip
                go_enter Tryz.func105, Tryz.ntmps105
                go_wp2_with fail
                go_loop [2, 8, 38] (fun nv _ iv => (iv = .int .i64 0 ∧ nv = .int .i64 0) ∨ (iv = .int .i64 1 ∧ nv = .int .i64 x) ∨ (iv = .int .i64 2 ∧ nv = .int .i64 (256 * x + y))) (fun _ _ iv => 2 - (intOf iv).toNat)
                case atStart => exact .inl ⟨rfl, rfl⟩
                case round =>
                  rcases hrel with ⟨rfl, rfl⟩ | ⟨rfl, rfl⟩ | ⟨rfl, rfl⟩
                  · go_wp2_with fail
                    go_round
                    case rel => exact .inr (.inl ⟨rfl, rfl⟩)
                    case measure => simp [intOf]
                  · go_wp2_with fail
                    go_round
                    case rel => exact .inr (.inr ⟨rfl, rfl⟩)
                    case measure => simp [intOf]
                  · go_wp2_with fail
                    go_ret3
                    exact ⟨rfl, rfl⟩
            · have hr : R = .tuple #[.int .i64 (256 * x + y), .int .i64 3, .int .i64 0] := by rw [← HR.out, Dm.lenR_cons, if_neg h1, if_neg h2, if_pos rfl]; simp only; rw [if_neg h3]; simp [lenOut]; omega
              have h4 : ¬ 256 * x + y < 128 := by omega
              subst hr
              clear hby
              go_enter Tryz.func105, Tryz.ntmps105
              go_wp2_with fail
              go_loop [2, 8, 38] (fun nv _ iv => (iv = .int .i64 0 ∧ nv = .int .i64 0) ∨ (iv = .int .i64 1 ∧ nv = .int .i64 x) ∨ (iv = .int .i64 2 ∧ nv = .int .i64 (256 * x + y))) (fun _ _ iv => 2 - (intOf iv).toNat)
              case atStart => exact .inl ⟨rfl, rfl⟩
              case round =>
                rcases hrel with ⟨rfl, rfl⟩ | ⟨rfl, rfl⟩ | ⟨rfl, rfl⟩
                · go_wp2_with fail
                  go_round
                  case rel => exact .inr (.inl ⟨rfl, rfl⟩)
                  case measure => simp [intOf]
                · go_wp2_with fail
                  go_round
                  case rel => exact .inr (.inr ⟨rfl, rfl⟩)
                  case measure => simp [intOf]
                · go_wp2_with fail
                  go_ret3
                  exact ⟨rfl, rfl⟩
        · have hr : R = .tuple #[.int .i64 0, .int .i64 0, .int .i64 71] := by rw [← HR.out, Dm.lenR_cons, if_neg h1, if_neg h2, if_neg h130]; rfl
          subst hr
          clear hby
          have h2' : (f != 129) = true := by simpa using h2
          have h3' : (f != 130) = true := by simpa using h130
          go_enter Tryz.func105, Tryz.ntmps105
          go_wp2_with fail
          go_ret3
          exact ⟨rfl, rfl⟩
end Go.Proofs.YtfdchdnkblmijaaGreatDoor
