/-
  A store's bytes and what is read of them: plain functions and their laws, no program in sight.
-/
import Derived.Test.YtiijlakilogekaaHm
namespace Go.Proofs.Ytiijlakilogekaa.Wm
open Go.Proofs.Ytiijlakilogekaa

/-- A number of four bytes, the highest first. -/
def num (l : List Int) : Int := l.foldl (fun n x => n * 256 + x) 0
/-- How many bytes of its own a frame at the beginning of b tells. -/
def told (b : List Int) : Int := num (b.take 4)
def long (b : List Int) : Nat := (told b).toNat
/-- Does a whole frame stand at the beginning of b? -/
def whole (b : List Int) : Prop :=
  20 ≤ b.length ∧ told b ≤ 4096 ∧ long b + 20 ≤ b.length ∧ Hm.bytes ((b.drop 4).take (long b)) = (b.drop (4 + long b)).take 16
open Classical in
/-- What is read: each frame's own bytes. -/
noncomputable def parse : Nat → List Int → List (List Int)
  | 0, _ => []
  | f + 1, b => if whole b then (b.drop 4).take (long b) :: parse f (b.drop (long b + 20)) else []
open Classical in
/-- How many bytes of it. -/
noncomputable def upTo : Nat → List Int → Nat
  | 0, _ => 0
  | f + 1, b => if whole b then long b + 20 + upTo f (b.drop (long b + 20)) else 0
noncomputable def read (b : List Int) : List (List Int) := parse b.length b
noncomputable def good (b : List Int) : Nat := upTo b.length b
/-- A frame. -/
def frame (x : List Int) : List Int := Hm.be 4 x.length ++ x ++ Hm.bytes x

theorem fuel (f g : Nat) (b : List Int) (hf : b.length ≤ f) (hg : b.length ≤ g) : parse f b = parse g b ∧ upTo f b = upTo g b := by
  induction f generalizing g b with
  | zero =>
    have hb : b = [] := List.length_eq_zero_iff.1 (by omega)
    subst hb
    cases g with
    | zero => exact ⟨rfl, rfl⟩
    | succ g =>
      have hw : ¬ whole [] := fun h => by have := h.1; simp at this
      simp [parse, upTo, hw]
  | succ f ih =>
    cases g with
    | zero =>
      have hb : b = [] := List.length_eq_zero_iff.1 (by omega)
      subst hb
      have hw : ¬ whole [] := fun h => by have := h.1; simp at this
      simp [parse, upTo, hw]
    | succ g =>
      by_cases hw : whole b
      · have h20 := hw.1
        obtain ⟨h1, h2⟩ := ih g (b.drop (long b + 20)) (by simp; omega) (by simp; omega)
        simp [parse, upTo, hw, h1, h2]
      · simp [parse, upTo, hw]

theorem read_whole (b : List Int) (h : whole b) : read b = (b.drop 4).take (long b) :: read (b.drop (long b + 20)) ∧ good b = long b + 20 + good (b.drop (long b + 20)) := by
  have h20 := h.1
  obtain ⟨n, hn⟩ : ∃ n, b.length = n + 1 := ⟨b.length - 1, by omega⟩
  unfold read good
  rw [hn]
  obtain ⟨h1, h2⟩ := fuel n (b.drop (long b + 20)).length (b.drop (long b + 20)) (by simp; omega) (Nat.le_refl _)
  simp [parse, upTo, h, h1, h2]
theorem read_not (b : List Int) (h : ¬ whole b) : read b = [] ∧ good b = 0 := by
  unfold read good
  cases b.length with
  | zero => exact ⟨rfl, rfl⟩
  | succ n => simp [parse, upTo, h]

/-- By whole frames, one after the other. -/
theorem induct (motive : List Int → Prop) (h0 : ∀ b, ¬ whole b → motive b) (h1 : ∀ b, whole b → motive (b.drop (long b + 20)) → motive b) (b : List Int) : motive b := by
  have key : ∀ n (b : List Int), b.length ≤ n → motive b := by
    intro n
    induction n with
    | zero => intro b hb; exact h0 b fun h => by have := h.1; omega
    | succ n ih =>
      intro b hb
      by_cases h : whole b
      · exact h1 b h (ih _ (by have := h.1; simp; omega))
      · exact h0 b h
  exact key b.length b (Nat.le_refl _)

theorem good_le (b : List Int) : good b ≤ b.length := by
  induction b using induct with
  | h0 b h => rw [(read_not b h).2]; omega
  | h1 b h ih => rw [(read_whole b h).2]; have := h.2.2.1; simp at ih; omega

theorem num_four (a b c d : Int) : num [a, b, c, d] = ((a * 256 + b) * 256 + c) * 256 + d := by simp [num]
theorem told_nonneg (b : List Int) (h : ∀ x ∈ b, byte x) : 0 ≤ told b := by
  unfold told num
  have key : ∀ (l : List Int) (n : Int), 0 ≤ n → (∀ x ∈ l, byte x) → 0 ≤ l.foldl (fun n x => n * 256 + x) n := by
    intro l
    induction l with
    | nil => intro n hn _; exact hn
    | cons c t ih => intro n hn hl; exact ih _ (by have := (hl c (by simp)).1; show 0 ≤ n * 256 + c; omega) fun x hx => hl x (by simp [hx])
  exact key _ 0 (by omega) fun x hx => h x (List.mem_of_mem_take hx)

/-- What a frame at the beginning of b tells hangs on its own bytes alone. -/
theorem whole_append (b c : List Int) (h : whole b) : whole (b ++ c) ∧ long (b ++ c) = long b ∧ ((b ++ c).drop 4).take (long b) = (b.drop 4).take (long b) ∧ (b ++ c).drop (long b + 20) = b.drop (long b + 20) ++ c := by
  obtain ⟨h1, h2, h3, h4⟩ := h
  have e1 : told (b ++ c) = told b := by unfold told; rw [List.take_append_of_le_length (by omega)]
  have e2 : long (b ++ c) = long b := by unfold long; rw [e1]
  have e3 : ((b ++ c).drop 4).take (long b) = (b.drop 4).take (long b) := by
    rw [List.drop_append_of_le_length (by omega), List.take_append_of_le_length (by simp; omega)]
  have e4 : (b ++ c).drop (long b + 20) = b.drop (long b + 20) ++ c := List.drop_append_of_le_length (by omega)
  refine ⟨⟨by simp; omega, by rw [e1]; exact h2, by rw [e2]; simp; omega, ?_⟩, e2, e3, e4⟩
  rw [e2, e3, h4, List.drop_append_of_le_length (by omega), List.take_append_of_le_length (by simp; omega)]

/-- WHAT IS WHOLE AHEAD OF MORE: both parts' things. -/
theorem read_append (b c : List Int) (h : good b = b.length) : read (b ++ c) = read b ++ read c ∧ good (b ++ c) = b.length + good c := by
  induction b using induct generalizing c with
  | h0 b hw =>
    have hb : b = [] := by rw [(read_not b hw).2] at h; exact List.length_eq_zero_iff.1 h.symm
    subst hb
    have := (read_not [] hw).1
    simp [this]
  | h1 b hw ih =>
    obtain ⟨e1, e2⟩ := read_whole b hw
    obtain ⟨w1, w2, w3, w4⟩ := whole_append b c hw
    obtain ⟨f1, f2⟩ := read_whole (b ++ c) w1
    have hl := hw.2.2.1
    rw [w2, w3, w4] at f1
    rw [w2, w4] at f2
    have hd : good (b.drop (long b + 20)) = (b.drop (long b + 20)).length := by simp; omega
    obtain ⟨g1, g2⟩ := ih c hd
    rw [f1, g1, e1]
    refine ⟨by simp, ?_⟩
    rw [f2, g2]; simp; omega

/-- WHAT IS LEFT OF IT IS WHOLE, and tells the same. -/
theorem read_good (b : List Int) : read (b.take (good b)) = read b ∧ good (b.take (good b)) = good b := by
  induction b using induct with
  | h0 b hw =>
    obtain ⟨e1, e2⟩ := read_not b hw
    rw [e2, e1]
    have hn : ¬ whole (b.take 0) := fun h => by have := h.1; simp at this
    exact read_not _ hn
  | h1 b hw ih =>
    obtain ⟨e1, e2⟩ := read_whole b hw
    obtain ⟨h1, h2, h3, h4⟩ := hw
    have hg := good_le (b.drop (long b + 20))
    have t1 : told (b.take (good b)) = told b := by unfold told; rw [List.take_take, Nat.min_eq_left (by omega)]
    have t2 : long (b.take (good b)) = long b := by unfold long; rw [t1]
    have t3 : ((b.take (good b)).drop 4).take (long b) = (b.drop 4).take (long b) := by rw [List.drop_take, List.take_take, Nat.min_eq_left (by omega)]
    have t4 : (b.take (good b)).drop (long b + 20) = (b.drop (long b + 20)).take (good (b.drop (long b + 20))) := by rw [List.drop_take]; congr 1; omega
    have tl : (b.take (good b)).length = good b := by have := good_le b; simp; omega
    have hw' : whole (b.take (good b)) := by
      refine ⟨by omega, by rw [t1]; exact h2, by rw [t2]; omega, ?_⟩
      rw [t2, t3, h4, List.drop_take, List.take_take, Nat.min_eq_left (by omega)]
    obtain ⟨f1, f2⟩ := read_whole _ hw'
    rw [t2, t3, t4, ih.1] at f1
    rw [t2, t4, ih.2] at f2
    exact ⟨by rw [f1, e1], by rw [f2, e2]⟩

/-- THE MORE IS KEPT THE MORE IS READ. -/
theorem read_less (b c : List Int) : read b <+: read (b ++ c) ∧ good b ≤ good (b ++ c) := by
  induction b using induct with
  | h0 b hw => obtain ⟨e1, e2⟩ := read_not b hw; rw [e1, e2]; exact ⟨List.nil_prefix, Nat.zero_le _⟩
  | h1 b hw ih =>
    obtain ⟨e1, e2⟩ := read_whole b hw
    obtain ⟨w1, w2, w3, w4⟩ := whole_append b c hw
    obtain ⟨f1, f2⟩ := read_whole (b ++ c) w1
    rw [w2, w3, w4] at f1
    rw [w2, w4] at f2
    rw [e1, e2, f1, f2]
    exact ⟨List.cons_prefix_cons.2 ⟨rfl, ih.1⟩, by have := ih.2; omega⟩

theorem num_be (n : Int) (h0 : 0 ≤ n) (h1 : n < 4294967296) : num (Hm.be 4 n) = n := by
  have e : Hm.be 4 n = [n / 16777216 % 256, n / 65536 % 256, n / 256 % 256, n % 256] := by simp [Hm.be]
  rw [e, num_four]; omega

theorem frame_length (x : List Int) : (frame x).length = x.length + 20 := by simp [frame, Hm.be_length, Hm.bytes_length]; omega
theorem frame_byte (x : List Int) (h : ∀ y ∈ x, byte y) : ∀ y ∈ frame x, byte y := by
  intro y hy
  simp only [frame, List.mem_append] at hy
  rcases hy with (hy | hy) | hy
  · exact Hm.be_byte _ _ y hy
  · exact h y hy
  · exact Hm.bytes_byte _ y hy

theorem frame_whole (x : List Int) (h : x.length ≤ 4096) : whole (frame x) ∧ long (frame x) = x.length ∧ ((frame x).drop 4).take x.length = x := by
  have hb : (Hm.be 4 (x.length : Int)).length = 4 := Hm.be_length _ _
  have t1 : told (frame x) = x.length := by
    unfold told frame
    rw [List.append_assoc, List.take_append_of_le_length (by omega), List.take_of_length_le (by omega)]
    exact num_be _ (by omega) (by omega)
  have t2 : long (frame x) = x.length := by unfold long; rw [t1]; rfl
  have d4 : (frame x).drop 4 = x ++ Hm.bytes x := by
    unfold frame
    rw [List.append_assoc, List.drop_append_of_le_length (by omega), List.drop_of_length_le (by omega)]; rfl
  have t3 : ((frame x).drop 4).take x.length = x := by rw [d4]; simp
  refine ⟨⟨by rw [frame_length]; omega, by rw [t1]; omega, by rw [t2, frame_length]; omega, ?_⟩, t2, t3⟩
  rw [t2, t3, Nat.add_comm, ← List.drop_drop]
  rw [show List.drop 4 (List.drop x.length (frame x)) = List.drop x.length (List.drop 4 (frame x)) by rw [List.drop_drop, List.drop_drop, Nat.add_comm]]
  rw [d4, List.drop_left, List.take_of_length_le (by rw [Hm.bytes_length]; omega)]

/-- A frame alone tells its own bytes. -/
theorem read_frame (x : List Int) (h : x.length ≤ 4096) : read (frame x) = [x] ∧ good (frame x) = (frame x).length := by
  obtain ⟨w, l, t⟩ := frame_whole x h
  obtain ⟨e1, e2⟩ := read_whole _ w
  have hd : (frame x).drop (long (frame x) + 20) = [] := List.drop_eq_nil_of_le (by rw [l, frame_length]; omega)
  have hn : ¬ whole [] := fun h => by have := h.1; simp at this
  rw [hd, l, t, (read_not [] hn).1] at e1
  rw [hd, l, (read_not [] hn).2] at e2
  exact ⟨e1, by rw [e2, frame_length]⟩

/-- Frames, one behind the other. -/
def frames : List (List Int) → List Int
  | [] => []
  | x :: t => frame x ++ frames t
theorem read_frames (l : List (List Int)) (h : ∀ x ∈ l, x.length ≤ 4096) : read (frames l) = l ∧ good (frames l) = (frames l).length := by
  induction l with
  | nil => have hn : ¬ whole [] := fun h => by have := h.1; simp at this
           exact read_not [] hn
  | cons x t ih =>
    obtain ⟨e1, e2⟩ := read_frame x (h x (by simp))
    obtain ⟨f1, f2⟩ := ih fun y hy => h y (by simp [hy])
    obtain ⟨g1, g2⟩ := read_append (frame x) (frames t) e2
    exact ⟨by rw [frames, g1, e1, f1]; rfl, by rw [frames, g2, f2, List.length_append]⟩
theorem frames_append (l m : List (List Int)) : frames (l ++ m) = frames l ++ frames m := by
  induction l with
  | nil => rfl
  | cons x t ih => simp [frames, ih]
end Go.Proofs.Ytiijlakilogekaa.Wm
