/- strings.Contains at one byte (written by the kit's lay-plain.mjs, one contract of it kept). -/
import Derived.Shelf.Strings.Search1
import Derived.Shelf.Strings.Search2
import Derived.Shelf.Strings.Search3
import Derived.Ground.Names2Prog
import Derived.Test.YthlcbhpdbcnmjaaProg
namespace Go.Proofs
open Go.Shelf
def Ythlcbhpdbcnmjaa.lays144_ren : Go.Shelf.Ren := ⟨fun | 144 => 28 | 143 => 32 | 219 => 33 | 217 => 34 | 225 => 35 | 224 => 36 | 267 => 37 | 266 => 38 | 314 => 39 | n => n, fun | 9 => 9 | 4 => 4 | 3 => 3 | 5 => 5 | 46 => 65 | 146 => 67 | 51 => 66 | n => n, fun | 1 => 0 | n => n⟩
theorem Ythlcbhpdbcnmjaa.lays144 : Go.Proofs.Lays.n144 Try.prog Ythlcbhpdbcnmjaa.lays144_ren := {
  mixed := by kernel_rfl
  f143 := Try.func32.trans (congrArg some (by kernel_rfl))
  f144 := Try.func28.trans (congrArg some (by kernel_rfl))
  f217 := Try.func34.trans (congrArg some (by kernel_rfl))
  f219 := Try.func33.trans (congrArg some (by kernel_rfl))
  f224 := Try.func36.trans (congrArg some (by kernel_rfl))
  f225 := Try.func35.trans (congrArg some (by kernel_rfl))
  f266 := Try.func38.trans (congrArg some (by kernel_rfl))
  f267 := Try.func37.trans (congrArg some (by kernel_rfl))
  f314 := Try.func39.trans (congrArg some (by kernel_rfl))
  t3 := Try.underlying3
  a3 := Try.isAgg3
  z3 := Try.sizeOf3
  v3 := Try.zeroValue3
  t4 := Try.underlying4
  a4 := Try.isAgg4
  z4 := Try.sizeOf4
  v4 := Try.zeroValue4
  t5 := Try.underlying5
  a5 := Try.isAgg5
  z5 := Try.sizeOf5
  v5 := Try.zeroValue5
  t9 := Try.underlying9
  a9 := Try.isAgg9
  z9 := Try.sizeOf9
  v9 := Try.zeroValue9
  t46 := Try.underlying65
  a46 := Try.isAgg65
  z46 := Try.sizeOf65
  v46 := Try.zeroValue65
  t51 := Try.underlying66
  a51 := Try.isAgg66
  z51 := Try.sizeOf66
  v51 := Try.zeroValue66
  t146 := Try.underlying67
  a146 := Try.isAgg67
  z146 := Try.sizeOf67
  v146 := Try.zeroValue67
  g1 := by kernel_rfl }
open Go.RowKit Go.Lib in
theorem Ythlcbhpdbcnmjaa.contains_one (s : ByteArray) (c : UInt8) (w : World) :
    Calls Try.prog 28 #[.string s, .string ⟨#[c]⟩] w fun e w' => e = .returned (.bool (decide (0 ≤ Lib.indexByte s.data.toList c))) ∧ w' = w := Any.strings_Contains_one Ythlcbhpdbcnmjaa.lays144 s c w
end Go.Proofs
