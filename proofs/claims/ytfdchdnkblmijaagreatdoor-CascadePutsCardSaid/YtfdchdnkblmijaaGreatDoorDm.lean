/-
  Plain Lean, no program in sight: strict DER: items, which ones may be, their bytes, and which item bytes are (layer 7).
-/
import Derived.Test.YtfdchdnkblmijaaGreatDoorHm
namespace Go.Proofs.YtfdchdnkblmijaaGreatDoor.Dm

inductive It where
  | mk (tag : Int) (b : List Int) (l : List It)
deriving Inhabited
def It.tag : It → Int | .mk t _ _ => t
def It.b : It → List Int | .mk _ b _ => b
def It.l : It → List It | .mk _ _ l => l
/-- No item: what an error comes with. -/
def no : It := .mk 0 [] []

mutual
def deep : It → Nat
  | .mk _ _ l => deeps l + 1
def deeps : List It → Nat
  | [] => 0
  | x :: l => max (deep x) (deeps l)
end
mutual
/-- How many items there are in one. -/
def size : It → Nat
  | .mk _ _ l => sizes l + 1
def sizes : List It → Nat
  | [] => 0
  | x :: l => size x + sizes l
end

mutual
/-- How many bytes and items there are. -/
def wt : It → Nat
  | .mk _ b l => 2 + b.length + wts l
def wts : List It → Nat
  | [] => 0
  | x :: l => wt x + wts l
end
theorem wt_eq (x : It) : wt x = 2 + x.b.length + wts x.l := by cases x; rw [wt]; rfl
theorem wts_len : ∀ l : List It, 2 * l.length ≤ wts l
  | [] => by simp
  | x :: l => by
    have := wts_len l
    have := wt_eq x
    simp only [List.length_cons, wts]; omega
theorem wts_mem : ∀ {l : List It} {y : It}, y ∈ l → wt y ≤ wts l
  | [], _, h => by simp at h
  | x :: l, y, h => by
    unfold wts
    rcases List.mem_cons.1 h with rfl | h
    · omega
    · have := wts_mem h; omega

def byte (x : Int) : Prop := 0 ≤ x ∧ x < 256
def known (t : Int) : Bool := decide (t = 1) || decide (t = 2) || decide (t = 4) || decide (t = 12) || decide (t = 48)
/-- An int's bytes, as few as there have to be. -/
def least : List Int → Bool
  | [] => false
  | [_] => true
  | x :: y :: r => decide (r.length ≤ 6) && !decide (x = if y < 128 then 0 else 255)
/-- What a tag asks of the content. -/
def mayB (t : Int) (b : List Int) : Bool :=
  if t = 1 then decide (b = [0]) || decide (b = [255])
  else if t = 2 then least b
  else if t = 4 then true
  else if t = 12 then b.all fun c => decide (32 ≤ c) && decide (c ≤ 126)
  else if t = 48 then b.isEmpty
  else false
theorem mayB_known {t : Int} {b : List Int} (h : mayB t b = true) : known t = true := by
  unfold mayB at h
  unfold known
  split at h
  · next e => simp [e]
  · split at h
    · next e => simp [e]
    · split at h
      · next e => simp [e]
      · split at h
        · next e => simp [e]
        · split at h
          · next e => simp [e]
          · cases h
mutual
def may (d : Nat) : It → Bool
  | .mk t b l => known t && decide (1 ≤ d) && mayB t b && (decide (t = 48) || l.isEmpty) && mays (d - 1) l
def mays (d : Nat) : List It → Bool
  | [] => true
  | x :: l => may d x && mays d l
end
mutual
def form : It → Bool
  | .mk t b l => (decide (t = 48) || l.isEmpty) && mayB t b && forms l
def forms : List It → Bool
  | [] => true
  | x :: l => form x && forms l
end
mutual
theorem may_form : ∀ (x : It) (d : Nat), may d x = (form x && decide (deep x ≤ d))
  | .mk t b l, d => by
    unfold may form deep
    rw [mays_form l (d - 1)]
    by_cases hd : 1 ≤ d
    · rw [decide_eq_true hd, show decide (deeps l + 1 ≤ d) = decide (deeps l ≤ d - 1) from decide_eq_decide.2 (by omega)]
      cases hm : mayB t b with
      | false => simp
      | true => rw [mayB_known hm]; cases (decide (t = 48) || l.isEmpty) <;> simp
    · rw [decide_eq_false hd, show decide (deeps l + 1 ≤ d) = false from decide_eq_false (by omega)]; simp
theorem mays_form : ∀ (l : List It) (d : Nat), mays d l = (forms l && decide (deeps l ≤ d))
  | [], d => by simp [mays, forms, deeps]
  | x :: l, d => by
    unfold mays forms deeps
    rw [may_form x d, mays_form l d]
    have : decide (max (deep x) (deeps l) ≤ d) = (decide (deep x ≤ d) && decide (deeps l ≤ d)) := by
      rw [← Bool.decide_and]; exact decide_eq_decide.2 (by omega)
    rw [this]
    cases form x <;> cases forms l <;> cases decide (deep x ≤ d) <;> simp
end

/-- How a length is written. -/
def lenB (n : Nat) : List Int :=
  if n < 128 then [(n : Int)] else if n < 256 then [129, (n : Int)] else [130, ((n / 256 % 256 : Nat) : Int), ((n % 256 : Nat) : Int)]
mutual
def bytes : It → List Int
  | .mk t b l => t :: (lenB (b.length + lens l) ++ (b ++ cat l))
def cat : List It → List Int
  | [] => []
  | x :: l => bytes x ++ cat l
/-- How many bytes items have. -/
def lens : List It → Nat
  | [] => 0
  | x :: l => len x + lens l
def len : It → Nat
  | .mk _ b l => 1 + (lenB (b.length + lens l)).length + (b.length + lens l)
end
mutual
theorem bytes_len : ∀ x : It, (bytes x).length = len x
  | .mk t b l => by unfold bytes len; simp [cat_len l]; omega
theorem cat_len : ∀ l : List It, (cat l).length = lens l
  | [] => by simp [cat, lens]
  | x :: l => by unfold cat lens; simp [bytes_len x, cat_len l]
end
theorem lenB_length (n : Nat) : (lenB n).length = if n < 128 then 1 else if n < 256 then 2 else 3 := by
  unfold lenB; split; rfl; split <;> rfl
theorem cat_append (l m : List It) : cat (l ++ m) = cat l ++ cat m := by
  induction l with
  | nil => simp [cat]
  | cons x l ih => simp [cat, ih]

/-- The length that bytes begin with, and how many bytes it has itself; or why there is none. -/
def lenR : List Int → Except Int (Nat × Nat)
  | [] => .error 70
  | f :: r =>
    if f < 128 then .ok (f.toNat, 1)
    else if f = 129 then
      match r with
      | [] => .error 70
      | x :: _ => if x < 128 then .error 71 else .ok (x.toNat, 2)
    else if f = 130 then
      match r with
      | x :: y :: _ => if 256 * x + y < 256 then .error 71 else .ok ((256 * x + y).toNat, 3)
      | _ => .error 70
    else .error 71
/-- Items, one behind the other, read by f. -/
def many (f : List Int → Except Int (It × List Int)) : Nat → List Int → Option (List It)
  | 0, b => if b.isEmpty then some [] else none
  | n + 1, b => if b.isEmpty then some [] else
    match f b with
    | .error _ => none
    | .ok (y, r) => (many f n r).map (y :: ·)
/-- The item that bytes begin with, and what is left; items within are read by f; ok: may there be one, so deep? -/
def getW (f : List Int → Except Int (It × List Int)) (ok : Bool) : List Int → Except Int (It × List Int)
  | [] => .error 70
  | t :: b1 =>
    if (known t && ok) = false then .error 71 else
    match lenR b1 with
    | .error e => .error e
    | .ok (n, long) =>
      if 8192 < 1 + long + n then .error 71 else
      if b1.length - long < n then .error 70 else
      if t = 48 then
        match many f ((b1.drop long).take n).length ((b1.drop long).take n) with
        | none => .error 71
        | some l => .ok (.mk t [] l, (b1.drop long).drop n)
      else if mayB t ((b1.drop long).take n) then .ok (.mk t ((b1.drop long).take n) [], (b1.drop long).drop n) else .error 71
/-- The item that bytes begin with, that is so deep at most, and what is left. -/
def get : Nat → List Int → Except Int (It × List Int)
  | 0 => getW (fun _ => .error 71) false
  | d + 1 => getW (get d) true
end Go.Proofs.YtfdchdnkblmijaaGreatDoor.Dm
