/- Contracts of the library that the kit lays: math/bits.Mul. -/
import Derived.Shelf.Bits.Mul64
import Derived.Test.YtflikmllpimaiaaProg
namespace Go.Proofs
open Go.Shelf
def Try.lays212_ren : Go.Shelf.Ren := ⟨fun | 212 => 98 | 263 => 118 | 264 => 119 | n => n, fun | 46 => 100 | 51 => 120 | 53 => 122 | 146 => 132 | 148 => 134 | n => n, fun | n => n⟩
theorem Try.lays212 : Go.Proofs.Lays.n212 Try.prog Try.lays212_ren := {
  mixed := by kernel_rfl
  f212 := Try.func98.trans (congrArg some (by kernel_rfl))
  f263 := Try.func118.trans (congrArg some (by kernel_rfl))
  f264 := Try.func119.trans (congrArg some (by kernel_rfl))
  t46 := Try.underlying100
  a46 := Try.isAgg100
  z46 := Try.sizeOf100
  v46 := Try.zeroValue100
  t51 := Try.underlying120
  a51 := Try.isAgg120
  z51 := Try.sizeOf120
  v51 := Try.zeroValue120
  t53 := Try.underlying122
  a53 := Try.isAgg122
  z53 := Try.sizeOf122
  v53 := Try.zeroValue122
  t146 := Try.underlying132
  a146 := Try.isAgg132
  z146 := Try.sizeOf132
  v146 := Try.zeroValue132
  t148 := Try.underlying134
  a148 := Try.isAgg134
  z148 := Try.sizeOf134
  v148 := Try.zeroValue134 }
theorem Try.bits_Mul (x y : Nat) (hx : x < 18446744073709551616) (hy : y < 18446744073709551616) (w : World) :
    Calls Try.prog 98 #[.int .u64 x, .int .u64 y] w fun e w' => e = .returned (.tuple #[.int .u64 ((x * y / 18446744073709551616 : Nat) : Int), .int .u64 ((x * y % 18446744073709551616 : Nat) : Int)]) ∧ w' = w := Any.bits_Mul Try.lays212 x y hx hy w
end Go.Proofs
