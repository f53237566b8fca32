/-
  Plain Lean: what is put is got, what is got was put, cut short it is none (layer 7).
-/
import Derived.Test.YtfdchdnkblmijaaGreatDoorDm
namespace Go.Proofs.YtfdchdnkblmijaaGreatDoor.Dm

theorem lenR_cons (f : Int) (r : List Int) : lenR (f :: r) = if f < 128 then .ok (f.toNat, 1)
    else if f = 129 then
      match r with
      | [] => .error 70
      | x :: _ => if x < 128 then .error 71 else .ok (x.toNat, 2)
    else if f = 130 then
      match r with
      | x :: y :: _ => if 256 * x + y < 256 then .error 71 else .ok ((256 * x + y).toNat, 3)
      | _ => .error 70
    else .error 71 := rfl
theorem getW_cons (f : List Int → Except Int (It × List Int)) (ok : Bool) (t : Int) (b1 : List Int) : getW f ok (t :: b1) =
    if (known t && ok) = false then .error 71 else
    match lenR b1 with
    | .error e => .error e
    | .ok (n, long) =>
      if 8192 < 1 + long + n then .error 71 else
      if b1.length - long < n then .error 70 else
      if t = 48 then
        match many f ((b1.drop long).take n).length ((b1.drop long).take n) with
        | none => .error 71
        | some l => .ok (.mk t [] l, (b1.drop long).drop n)
      else if mayB t ((b1.drop long).take n) then .ok (.mk t ((b1.drop long).take n) [], (b1.drop long).drop n) else .error 71 := rfl
theorem lenR_lenB (n : Nat) (r : List Int) (h : n < 65536) : lenR (lenB n ++ r) = .ok (n, (lenB n).length) := by
  unfold lenB
  by_cases h1 : n < 128
  · rw [if_pos h1]
    have e : (n : Int) < 128 := by omega
    simp [lenR, e]
  · rw [if_neg h1]
    by_cases h2 : n < 256
    · rw [if_pos h2]
      have e : ¬ (n : Int) < 128 := by omega
      simp [lenR, e]
    · rw [if_neg h2]
      have e : 256 * ((n / 256 % 256 : Nat) : Int) + ((n % 256 : Nat) : Int) = n := by omega
      have e2 : ¬ (n : Int) < 256 := by omega
      show lenR (130 :: ((n / 256 % 256 : Nat) : Int) :: ((n % 256 : Nat) : Int) :: r) = _
      rw [lenR_cons, if_neg (by decide), if_neg (by decide), if_pos rfl]
      simp only
      rw [e, if_neg e2]; rfl
theorem len_pos (x : It) : 2 ≤ len x := by
  cases x with | mk t b l => unfold len; rw [lenB_length]; split <;> (try split) <;> omega
theorem bytes_cons (x : It) : ∃ r, bytes x = x.tag :: r := by
  cases x with | mk t b l => exact ⟨_, by unfold bytes; rfl⟩
mutual
theorem get_bytes : ∀ (x : It) (d : Nat) (r : List Int), may d x = true → len x ≤ 8192 → get d (bytes x ++ r) = .ok (x, r)
  | .mk t b l, d, r, hm, hl => by
    unfold may at hm
    simp only [Bool.and_eq_true, Bool.or_eq_true, decide_eq_true_eq] at hm
    obtain ⟨⟨⟨⟨hk, hd⟩, hb⟩, ht⟩, hs⟩ := hm
    have hlen := hl
    unfold len at hlen
    obtain ⟨m, hmm⟩ : ∃ m, b.length + lens l = m := ⟨_, rfl⟩
    have hml : (b ++ cat l).length = m := by rw [List.length_append, cat_len]; exact hmm
    have e : bytes (.mk t b l) ++ r = t :: (lenB m ++ ((b ++ cat l) ++ r)) := by unfold bytes; rw [hmm]; simp
    rw [hmm] at hlen
    cases d with
    | zero => omega
    | succ d =>
    rw [e]
    show getW (get d) true _ = _
    rw [getW_cons, if_neg (by rw [hk]; simp), lenR_lenB m _ (by omega)]
    simp only
    rw [if_neg (by omega), if_neg (by simp only [List.length_append] at hml ⊢; omega)]
    rw [List.drop_left, List.take_left' hml, List.drop_left' hml]
    by_cases h48 : t = 48
    · rw [if_pos h48]
      have hb0 : b = [] := by
        unfold mayB at hb
        rw [if_neg (by omega), if_neg (by omega), if_neg (by omega), if_neg (by omega), if_pos h48] at hb
        simpa using hb
      subst hb0
      simp only [List.nil_append]
      rw [many_cat l d _ hs (by simp at hmm; rw [hmm]; omega) (by rw [cat_len]; exact Nat.le_refl _)]
    · rw [if_neg h48]
      have hl0 : l = [] := by
        rcases ht with h | h
        · exact absurd h h48
        · simpa using h
      subst hl0
      simp only [cat, List.append_nil]
      rw [if_pos hb]
theorem many_cat : ∀ (l : List It) (d n : Nat), mays d l = true → lens l ≤ 8192 → (cat l).length ≤ n → many (get d) n (cat l) = some l
  | [], d, n, _, _, _ => by cases n <;> simp [many, cat]
  | x :: l, d, n, hm, hl, hn => by
    unfold mays at hm
    rw [Bool.and_eq_true] at hm
    unfold lens at hl
    have hp := len_pos x
    rw [cat_len] at hn
    unfold lens at hn
    cases n with
    | zero => omega
    | succ n =>
      unfold cat
      have hne : (bytes x ++ cat l).isEmpty = false := by
        obtain ⟨r, hr⟩ := bytes_cons x
        rw [hr]; rfl
      unfold many
      rw [hne, get_bytes x d (cat l) hm.1 (by omega)]
      simp only [Bool.false_eq_true, if_false]
      rw [many_cat l d n hm.2 (by omega) (by rw [cat_len]; omega)]
      rfl
end

theorem lenR_only {b : List Int} {n k : Nat} (hb : ∀ y ∈ b, byte y) (h : lenR b = .ok (n, k)) : ∃ r, b = lenB n ++ r ∧ k = (lenB n).length ∧ n < 65536 := by
  match b, hb, h with
  | [], _, h => simp [lenR] at h
  | f :: r, hb, h =>
    have hf := hb f (by simp)
    rw [lenR_cons] at h
    by_cases h1 : f < 128
    · rw [if_pos h1] at h
      injection h with h
      injection h with e1 e2
      subst e1 e2
      have h0 := hf.1
      refine ⟨r, ?_, ?_, by omega⟩
      · unfold lenB; rw [if_pos (by omega)]; simp; omega
      · unfold lenB; rw [if_pos (by omega)]; rfl
    · rw [if_neg h1] at h
      by_cases h2 : f = 129
      · rw [if_pos h2] at h
        match r, hb, h with
        | [], _, h => cases h
        | x :: r, hb, h =>
          have hx := hb x (by simp)
          have x0 := hx.1; have x1 := hx.2
          simp only at h
          by_cases h3 : x < 128
          · rw [if_pos h3] at h; cases h
          · rw [if_neg h3] at h
            injection h with h
            injection h with e1 e2
            subst e1 e2
            refine ⟨r, ?_, ?_, by omega⟩
            · unfold lenB; rw [if_neg (by omega), if_pos (by omega)]; simp; omega
            · unfold lenB; rw [if_neg (by omega), if_pos (by omega)]; rfl
      · rw [if_neg h2] at h
        by_cases h3 : f = 130
        · rw [if_pos h3] at h
          match r, hb, h with
          | [], _, h => cases h
          | [x], _, h => cases h
          | x :: y :: r, hb, h =>
            have hx := hb x (by simp); have hy := hb y (by simp)
            have x0 := hx.1; have x1 := hx.2; have y0 := hy.1; have y1 := hy.2
            simp only at h
            by_cases h4 : 256 * x + y < 256
            · rw [if_pos h4] at h; cases h
            · rw [if_neg h4] at h
              injection h with h
              injection h with e1 e2
              subst e1 e2
              refine ⟨r, ?_, ?_, by omega⟩
              · unfold lenB; rw [if_neg (by omega), if_neg (by omega)]; simp; omega
              · unfold lenB; rw [if_neg (by omega), if_neg (by omega)]; rfl
        · rw [if_neg h3] at h; cases h

theorem many_only (f : List Int → Except Int (It × List Int)) (d : Nat) (hf : ∀ b x r, (∀ y ∈ b, byte y) → f b = .ok (x, r) → may d x = true ∧ bytes x ++ r = b ∧ len x ≤ 8192) :
    ∀ (n : Nat) (b : List Int) (l : List It), (∀ y ∈ b, byte y) → many f n b = some l → mays d l = true ∧ cat l = b
  | 0, b, l, hb, h => by
    unfold many at h
    split at h
    · next e => injection h with h; subst h; exact ⟨by simp [mays], by simpa [cat] using (List.isEmpty_iff.1 e).symm⟩
    · cases h
  | n + 1, b, l, hb, h => by
    unfold many at h
    split at h
    · next e => injection h with h; subst h; exact ⟨by simp [mays], by simpa [cat] using (List.isEmpty_iff.1 e).symm⟩
    · match hfb : f b, h with
      | .error _, h => cases h
      | .ok (y, r), h =>
        simp only at h
        match hmr : many f n r, h with
        | none, h => cases h
        | some l', h =>
          simp only [Option.map_some, Option.some.injEq] at h
          subst h
          obtain ⟨h1, h2, h3⟩ := hf b y r hb hfb
          obtain ⟨h4, h5⟩ := many_only f d hf n r l' (fun z hz => hb z (by rw [← h2]; exact List.mem_append_right _ hz)) hmr
          exact ⟨by unfold mays; rw [h1, h4]; rfl, by unfold cat; rw [h5, h2]⟩
theorem get_only : ∀ (d : Nat) (b : List Int) (x : It) (r : List Int), (∀ y ∈ b, byte y) → get d b = .ok (x, r) → may d x = true ∧ bytes x ++ r = b ∧ len x ≤ 8192
  | 0, [], x, r, _, h => by simp [get, getW] at h
  | 0, t :: b1, x, r, _, h => by simp [get, getW] at h
  | d + 1, [], x, r, _, h => by simp [get, getW] at h
  | d + 1, t :: b1, x, r, hb, h => by
    have h : getW (get d) true (t :: b1) = _ := h
    rw [getW_cons] at h
    by_cases hk : (known t && true) = false
    · rw [if_pos hk] at h; cases h
    rw [if_neg hk] at h
    have hk1 : known t = true := by simpa using hk
    have hb1 : ∀ y ∈ b1, byte y := fun y hy => hb y (List.mem_cons_of_mem _ hy)
    match hL : lenR b1, h with
    | .error _, h => cases h
    | .ok (n, k), h =>
      simp only at h
      obtain ⟨c, hc, rfl, hn⟩ := lenR_only hb1 hL
      by_cases h1 : 8192 < 1 + (lenB n).length + n
      · rw [if_pos h1] at h; cases h
      rw [if_neg h1] at h
      by_cases h2 : b1.length - (lenB n).length < n
      · rw [if_pos h2] at h; cases h
      rw [if_neg h2] at h
      have hcl : n ≤ c.length := by rw [hc] at h2; simp at h2; omega
      rw [hc, List.drop_left] at h
      have htl : (c.take n).length = n := by simp; omega
      have hcb : ∀ y ∈ c, byte y := fun y hy => hb1 y (by rw [hc]; exact List.mem_append_right _ hy)
      by_cases h48 : t = 48
      · rw [if_pos h48] at h
        · match hM : many (get d) (c.take n).length (c.take n), h with
          | none, h => cases h
          | some l, h =>
            simp only [Except.ok.injEq, Prod.mk.injEq] at h
            obtain ⟨rfl, rfl⟩ := h
            obtain ⟨m1, m2⟩ := many_only (get d) d (get_only d) _ _ _ (fun y hy => hcb y (List.mem_of_mem_take hy)) hM
            have hll : lens l = n := by rw [← cat_len, m2, htl]
            refine ⟨?_, ?_, ?_⟩
            · unfold may; rw [hk1, h48]; simp [mayB, m1]
            · unfold bytes; simp only [List.length_nil, Nat.zero_add, List.nil_append]; rw [hll, m2, hc]; simp
            · unfold len; simp only [List.length_nil, Nat.zero_add]; rw [hll]; omega
      · rw [if_neg h48] at h
        by_cases hm : mayB t (c.take n) = true
        · rw [if_pos hm] at h
          simp only [Except.ok.injEq, Prod.mk.injEq] at h
          obtain ⟨rfl, rfl⟩ := h
          refine ⟨?_, ?_, ?_⟩
          · unfold may; rw [hk1, hm]; simp [mays]
          · unfold bytes; simp only [lens, cat, Nat.add_zero, List.append_nil]; rw [htl, hc]; simp
          · unfold len; simp only [lens, Nat.add_zero]; rw [htl]; omega
        · rw [if_neg hm] at h; cases h
/-- An item that may be, cut short. -/
theorem get_cut (x : It) (d n : Nat) (hk : known x.tag = true) (hd : 1 ≤ d) (hl : len x ≤ 8192) (hn : n < len x) : get d ((bytes x).take n) = .error 70 := by
  cases x with
  | mk t b l =>
    cases n with
    | zero => cases d <;> simp [get, getW]
    | succ n =>
      obtain ⟨m, hmm⟩ : ∃ m, b.length + lens l = m := ⟨_, rfl⟩
      have hml : (b ++ cat l).length = m := by rw [List.length_append, cat_len]; exact hmm
      unfold len at hl hn
      rw [hmm] at hl hn
      have e : (bytes (.mk t b l)).take (n + 1) = t :: (lenB m ++ (b ++ cat l)).take n := by unfold bytes; rw [hmm]; rfl
      have hk' : known t = true := hk
      cases d with
      | zero => omega
      | succ d =>
      rw [e]
      show getW (get d) true _ = _
      rw [getW_cons, if_neg (by rw [hk']; simp)]
      by_cases hq : (lenB m).length ≤ n
      · have e2 : (lenB m ++ (b ++ cat l)).take n = lenB m ++ (b ++ cat l).take (n - (lenB m).length) := by
          rw [List.take_append, List.take_of_length_le hq]
        rw [e2, lenR_lenB m _ (by omega)]
        simp only
        rw [if_neg (by omega), if_pos (by simp only [List.length_append, List.length_take] at hml ⊢; omega)]
      · have h3 := lenB_length m
        have hL : lenR ((lenB m ++ (b ++ cat l)).take n) = .error 70 := by
          rw [List.take_append_of_le_length (by omega)]
          unfold lenB at hq ⊢
          by_cases q1 : m < 128
          · rw [if_pos q1] at hq ⊢
            obtain rfl : n = 0 := by simp at hq; exact hq
            rfl
          · rw [if_neg q1] at hq ⊢
            by_cases q2 : m < 256
            · rw [if_pos q2] at hq ⊢
              match n, hq with
              | 0, _ => rfl
              | 1, _ => rfl
              | n + 2, hq => simp at hq
            · rw [if_neg q2] at hq ⊢
              match n, hq with
              | 0, _ => rfl
              | 1, _ => rfl
              | 2, _ => rfl
              | n + 3, hq => simp at hq
        rw [hL]
end Go.Proofs.YtfdchdnkblmijaaGreatDoor.Dm
