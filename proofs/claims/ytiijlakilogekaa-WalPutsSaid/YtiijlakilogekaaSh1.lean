/-
  Contracts of the library's shelf, laid at this seat's numbers (written by program: lay-shelf.mjs, lay-plain.mjs, shelf2tpl.py).
-/
import Derived.Shelf.Bits.Mul64
import Derived.Test.YtiijlakilogekaaProg
namespace Go.Proofs.Ytiijlakilogekaa
open Go.Proofs
open Go.Shelf
def Sh.lays264_ren : Go.Shelf.Ren := ⟨fun | 264 => 51 | n => n, fun | 53 => 50 | 46 => 48 | n => n, fun | n => n⟩
theorem Sh.lays264 : Go.Proofs.Lays.n264 Try.prog Sh.lays264_ren := {
  mixed := by kernel_rfl
  f264 := Try.func51.trans (congrArg some (by kernel_rfl))
  t46 := Try.underlying48
  a46 := Try.isAgg48
  z46 := Try.sizeOf48
  v46 := Try.zeroValue48
  t53 := Try.underlying50
  a53 := Try.isAgg50
  z53 := Try.sizeOf50
  v53 := Try.zeroValue50 }
open Go.RowKit Go.Lib in
theorem Sh.bits_Mul64 (x y : Nat) (hx : x < 18446744073709551616) (hy : y < 18446744073709551616) (w : World) :
    Calls Try.prog 51 #[.int .u64 x, .int .u64 y] w fun e w' => e = .returned (.tuple #[.int .u64 ((x * y / 18446744073709551616 : Nat) : Int), .int .u64 ((x * y % 18446744073709551616 : Nat) : Int)]) ∧ w' = w := Any.bits_Mul64 Sh.lays264 x y hx hy w

end Go.Proofs.Ytiijlakilogekaa
