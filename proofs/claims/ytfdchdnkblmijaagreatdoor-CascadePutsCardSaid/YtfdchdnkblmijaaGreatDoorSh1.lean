/-
  Contracts of the library's shelf, laid at this seat's numbers (written by program: lay-shelf.mjs, lay-plain.mjs, shelf2tpl.py).
-/
import Derived.Shelf.Bits.Mul64
import Derived.Test.YtfdchdnkblmijaaGreatDoorProg
namespace Go.Proofs.YtfdchdnkblmijaaGreatDoor
open Go.Proofs
open Go.Shelf
def Sh.lays264_ren : Go.Shelf.Ren := ⟨fun | 264 => 108 | n => n, fun | 53 => 124 | 46 => 88 | n => n, fun | n => n⟩
theorem Sh.lays264 : Go.Proofs.Lays.n264 Tryz.prog Sh.lays264_ren := {
  mixed := by kernel_rfl
  f264 := Tryz.func108.trans (congrArg some (by kernel_rfl))
  t46 := Tryz.underlying88
  a46 := Tryz.isAgg88
  z46 := Tryz.sizeOf88
  v46 := Tryz.zeroValue88
  t53 := Tryz.underlying124
  a53 := Tryz.isAgg124
  z53 := Tryz.sizeOf124
  v53 := Tryz.zeroValue124 }
open Go.RowKit Go.Lib in
theorem Sh.bits_Mul64 (x y : Nat) (hx : x < 18446744073709551616) (hy : y < 18446744073709551616) (w : World) :
    Calls Tryz.prog 108 #[.int .u64 x, .int .u64 y] w fun e w' => e = .returned (.tuple #[.int .u64 ((x * y / 18446744073709551616 : Nat) : Int), .int .u64 ((x * y % 18446744073709551616 : Nat) : Int)]) ∧ w' = w := Any.bits_Mul64 Sh.lays264 x y hx hy w

end Go.Proofs.YtfdchdnkblmijaaGreatDoor
