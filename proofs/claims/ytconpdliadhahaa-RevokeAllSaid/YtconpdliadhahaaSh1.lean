/-
  Contracts of the library's shelf, laid at this seat's numbers (written by program: lay-shelf.mjs, lay-plain.mjs, shelf2tpl.py).
-/
import Derived.Shelf.Bits.Mul64
import Derived.Test.YtconpdliadhahaaProg
namespace Go.Proofs.Ytconpdliadhahaa
open Go.Proofs
open Go.Shelf
def Sh.lays264_ren : Go.Shelf.Ren := ⟨fun | 264 => 75 | n => n, fun | 53 => 87 | 46 => 78 | n => n, fun | n => n⟩
theorem Sh.lays264 : Go.Proofs.Lays.n264 Try.prog Sh.lays264_ren := {
  mixed := by kernel_rfl
  f264 := Try.func75.trans (congrArg some (by kernel_rfl))
  t46 := Try.underlying78
  a46 := Try.isAgg78
  z46 := Try.sizeOf78
  v46 := Try.zeroValue78
  t53 := Try.underlying87
  a53 := Try.isAgg87
  z53 := Try.sizeOf87
  v53 := Try.zeroValue87 }
open Go.RowKit Go.Lib in
theorem Sh.bits_Mul64 (x y : Nat) (hx : x < 18446744073709551616) (hy : y < 18446744073709551616) (w : World) :
    Calls Try.prog 75 #[.int .u64 x, .int .u64 y] w fun e w' => e = .returned (.tuple #[.int .u64 ((x * y / 18446744073709551616 : Nat) : Int), .int .u64 ((x * y % 18446744073709551616 : Nat) : Int)]) ∧ w' = w := Any.bits_Mul64 Sh.lays264 x y hx hy w

end Go.Proofs.Ytconpdliadhahaa
