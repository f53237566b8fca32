/-
  Contracts of the library's shelf, laid at this seat's numbers (written by program: lay-shelf.mjs, lay-plain.mjs, shelf2tpl.py).
-/
import Derived.Shelf.Bits.Mul64
import Derived.Test.YtpmkinnfbnfmbaaProg
namespace Go.Proofs.Ytpmkinnfbnfmbaa
open Go.Proofs
open Go.Shelf
def Sh.lays264_ren : Go.Shelf.Ren := ⟨fun | 264 => 32 | n => n, fun | 53 => 55 | 46 => 34 | n => n, fun | n => n⟩
theorem Sh.lays264 : Go.Proofs.Lays.n264 Try.prog Sh.lays264_ren := {
  mixed := by kernel_rfl
  f264 := Try.func32.trans (congrArg some (by kernel_rfl))
  t46 := Try.underlying34
  a46 := Try.isAgg34
  z46 := Try.sizeOf34
  v46 := Try.zeroValue34
  t53 := Try.underlying55
  a53 := Try.isAgg55
  z53 := Try.sizeOf55
  v53 := Try.zeroValue55 }
open Go.RowKit Go.Lib in
theorem Sh.bits_Mul64 (x y : Nat) (hx : x < 18446744073709551616) (hy : y < 18446744073709551616) (w : World) :
    Calls Try.prog 32 #[.int .u64 x, .int .u64 y] w fun e w' => e = .returned (.tuple #[.int .u64 ((x * y / 18446744073709551616 : Nat) : Int), .int .u64 ((x * y % 18446744073709551616 : Nat) : Int)]) ∧ w' = w := Any.bits_Mul64 Sh.lays264 x y hx hy w

end Go.Proofs.Ytpmkinnfbnfmbaa
