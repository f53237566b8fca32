/-
  Bytes: their type's row of the table; slices of bytes as strings.
-/
import Derived.Test.YtiijlakilogekaaAp
import Derived.Test.YtiijlakilogekaaFo
import Derived.Test.YtiijlakilogekaaFw
import Derived.Laws.BytesArg
import Derived.Shelf.Bytes.SlSmallAll
import Derived.Lib.Bytes
namespace Go.Proofs.Ytiijlakilogekaa
open Go.RowKit

theorem info_u8 : (Try.prog.info? 5).map (fun i => (i.zero, i.size, i.bytes)) = some (some (.int .u8 0), 1, 1) := by kernel_rfl

/-- 'string(b)'. -/
theorem Row.convert {w : World} {v : Value} {l : List Int} (h : Row .u8 w v l) : (Go.convert 22 9 v).run Try.prog w = .ok (.string (strOfNums l)) w := by
  obtain ⟨a, cap, rfl, hl, hc, h0, hw, hr⟩ := h
  by_cases hne : l = []
  · subst hne
    exact run_convert_bytes_zero w _ _ Try.underlying22 Try.underlying5 a cap _ Try.underlying9
  · obtain ⟨b, off, rfl, hb, hx⟩ := hr hne
    exact run_convert_bytes_arg w _ _ Try.underlying22 Try.underlying5 b off l.length cap l rfl (fun i hi => by rw [hx i hi]; simp [List.getD]) _ Try.underlying9

theorem ofNat_inj {x y : Int} (hx : byte x) (hy : byte y) (h : UInt8.ofNat x.toNat = UInt8.ofNat y.toNat) : x = y := by
  have := congrArg UInt8.toNat h
  rw [UInt8.toNat_ofNat', UInt8.toNat_ofNat'] at this
  unfold byte at hx hy; omega
theorem strOf_inj : ∀ {l m : List Int}, (∀ x ∈ l, byte x) → (∀ x ∈ m, byte x) → Lib.bytesOf l = Lib.bytesOf m → l = m
  | [], [], _, _, _ => rfl
  | [], y :: m, _, _, h => by simp [Lib.bytesOf] at h
  | x :: l, [], _, _, h => by simp [Lib.bytesOf] at h
  | x :: l, y :: m, hl, hm, h => by
    simp only [Lib.bytesOf, List.map_cons, List.cons.injEq] at h
    rw [ofNat_inj (hl x (by simp)) (hm y (by simp)) h.1, strOf_inj (fun z hz => hl z (by simp [hz])) (fun z hz => hm z (by simp [hz])) h.2]
theorem Row.all_byte {w : World} {v : Value} {l : List Int} (h : Row .u8 w v l) : ∀ x ∈ l, byte x := by
  obtain ⟨_, _, _, _, _, _, hw, _⟩ := h
  exact fun x hx => byte_wf (hw x hx)
theorem byte_wf_of {x : Int} (h : byte x) : (Lit.int .u8 x).wf = true := by
  unfold byte at h
  simp [Lit.wf, IntKind.min, IntKind.max, IntKind.bits, IntKind.signed]; omega
/-- Strings of bytes are the same just if the bytes are. -/
theorem str_eq {l m : List Int} (hl : ∀ x ∈ l, byte x) (hm : ∀ x ∈ m, byte x) : ((strOfNums l).toList == (strOfNums m).toList) = decide (l = m) := by
  rw [Lib.strOfNums_toList, Lib.strOfNums_toList, Bool.eq_iff_iff]
  simp only [beq_iff_eq, decide_eq_true_eq]
  exact ⟨strOf_inj hl hm, fun h => by rw [h]⟩
end Go.Proofs.Ytiijlakilogekaa
