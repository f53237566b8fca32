/-
  The hash as plain functions: no program in sight.
-/
import Derived.Test.YtfdchdnkblmijaaGreatDoorFo
namespace Go.Proofs.YtfdchdnkblmijaaGreatDoor.Hm
open Go.Proofs.YtfdchdnkblmijaaGreatDoor

/-- Three elements. -/
structure St where
  a : Int
  b : Int
  c : Int

/-- One element in a round. -/
def lift (n x : Int) : Int := Fm.pow (Fm.add x (n * n * n + 7)) 17
def round (r : Int) (s : St) : St :=
  let x := lift (3 * r + 1) s.a
  let y := lift (3 * r + 2) s.b
  let z := lift (3 * r + 3) s.c
  let t := Fm.add (Fm.add x y) z
  ⟨Fm.add x t, Fm.add y t, Fm.add z t⟩
def rounds : Nat → St → St
  | 0, s => s
  | k + 1, s => round k (rounds k s)
def mix (s : St) : St := rounds 8 s

/-- Elements, two by two. -/
def absorb : List Int → St → St
  | [], s => s
  | [x], s => mix ⟨Fm.add s.a x, s.b, s.c⟩
  | x :: y :: t, s => absorb t (mix ⟨Fm.add s.a x, Fm.add s.b y, s.c⟩)
def start (n : Int) : St := ⟨0, 0, n⟩
def sum (b : List Int) : St := if elems b = [] then mix (start b.length) else absorb (elems b) (start b.length)

def St.ok (s : St) : Prop := (0 ≤ s.a ∧ s.a < Fm.P) ∧ (0 ≤ s.b ∧ s.b < Fm.P) ∧ (0 ≤ s.c ∧ s.c < Fm.P)
theorem round_ok (r : Int) (s : St) : (round r s).ok := ⟨Fm.add_rng _ _, Fm.add_rng _ _, Fm.add_rng _ _⟩
theorem mix_ok (s : St) : (mix s).ok := round_ok _ _
theorem absorb_ok (l : List Int) (s : St) (h : s.ok) : (absorb l s).ok := by
  match l with
  | [] => exact h
  | [x] => exact mix_ok _
  | x :: y :: t => exact absorb_ok t _ (mix_ok _)
theorem sum_ok (b : List Int) : (sum b).ok := by
  unfold sum
  split
  · exact mix_ok _
  · rename_i h
    match he : elems b with
    | [] => exact absurd he h
    | [x] => exact mix_ok _
    | x :: y :: t => exact absorb_ok t _ (mix_ok _)

/-- A number's lowest k bytes, the highest first. -/
def be : Nat → Int → List Int
  | 0, _ => []
  | k + 1, n => n / 256 ^ k % 256 :: be k n
theorem be_length (k : Nat) (n : Int) : (be k n).length = k := by induction k <;> simp [be, *]
theorem be_byte (k : Nat) (n : Int) : ∀ x ∈ be k n, byte x := by
  induction k with
  | zero => simp [be]
  | succ k ih =>
    intro x hx
    rcases List.mem_cons.1 hx with rfl | hx
    · have := Int.emod_nonneg (n / 256 ^ k) (show (256 : Int) ≠ 0 by omega)
      have := Int.emod_lt_of_pos (n / 256 ^ k) (show (0 : Int) < 256 by omega)
      exact ⟨by omega, by omega⟩
    · exact ih x hx
/-- A hash as bytes. -/
def bytes (b : List Int) : List Int := be 8 (sum b).a ++ be 8 (sum b).b
theorem bytes_length (b : List Int) : (bytes b).length = 16 := by simp [bytes, be_length]
theorem bytes_byte (b : List Int) : ∀ x ∈ bytes b, byte x := by
  intro x hx
  rcases List.mem_append.1 hx with h | h <;> exact be_byte _ _ x h
end Go.Proofs.YtfdchdnkblmijaaGreatDoor.Hm
