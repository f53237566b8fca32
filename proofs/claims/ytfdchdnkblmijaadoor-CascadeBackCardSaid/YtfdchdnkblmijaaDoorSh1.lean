/-
  Contracts of the library's shelf, laid at this seat's numbers (written by program: lay-shelf.mjs, lay-plain.mjs, shelf2tpl.py).
-/
import Derived.Shelf.Bits.Mul64
import Derived.Test.YtfdchdnkblmijaaDoorProg
namespace Go.Proofs.YtfdchdnkblmijaaDoor
open Go.Proofs
open Go.Shelf
def Sh.lays264_ren : Go.Shelf.Ren := ⟨fun | 264 => 74 | n => n, fun | 53 => 92 | 46 => 89 | n => n, fun | n => n⟩
theorem Sh.lays264 : Go.Proofs.Lays.n264 Tryd.prog Sh.lays264_ren := {
  mixed := by kernel_rfl
  f264 := Tryd.func74.trans (congrArg some (by kernel_rfl))
  t46 := Tryd.underlying89
  a46 := Tryd.isAgg89
  z46 := Tryd.sizeOf89
  v46 := Tryd.zeroValue89
  t53 := Tryd.underlying92
  a53 := Tryd.isAgg92
  z53 := Tryd.sizeOf92
  v53 := Tryd.zeroValue92 }
open Go.RowKit Go.Lib in
theorem Sh.bits_Mul64 (x y : Nat) (hx : x < 18446744073709551616) (hy : y < 18446744073709551616) (w : World) :
    Calls Tryd.prog 74 #[.int .u64 x, .int .u64 y] w fun e w' => e = .returned (.tuple #[.int .u64 ((x * y / 18446744073709551616 : Nat) : Int), .int .u64 ((x * y % 18446744073709551616 : Nat) : Int)]) ∧ w' = w := Any.bits_Mul64 Sh.lays264 x y hx hy w

end Go.Proofs.YtfdchdnkblmijaaDoor
