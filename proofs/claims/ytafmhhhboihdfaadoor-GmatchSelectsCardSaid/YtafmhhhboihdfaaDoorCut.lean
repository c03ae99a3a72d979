/-
  strings.Cut by the shelf's contract, laid over this dump. Conditions: those that each theorem names. The laying is printed by mklay.py, plainlay.py.
-/
import Derived.Test.YtafmhhhboihdfaaDoorSet3
import Derived.Shelf.Strings.Cut
namespace Go.Proofs.YtafmhhhboihdfaaDoor
open Go.RowKit Go.Shelf
def Tryd.laysCut_ren : Go.Shelf.Ren := ⟨fun | 145 => 88 | 220 => 92 | 219 => 93 | 217 => 94 | 225 => 95 | 224 => 96 | 267 => 97 | 266 => 98 | 314 => 99 | n => n, fun | 9 => 9 | 4 => 4 | 59 => 134 | 3 => 3 | 5 => 5 | 46 => 95 | 146 => 143 | 51 => 118 | n => n, fun | 1 => 21 | n => n⟩
theorem Tryd.laysCut : Go.Proofs.Lays.n145 Tryd.prog Tryd.laysCut_ren := {
  mixed := by kernel_rfl,
  f145 := Tryd.func88.trans (congrArg some (by kernel_rfl)),
  f217 := Tryd.func94.trans (congrArg some (by kernel_rfl)),
  f219 := Tryd.func93.trans (congrArg some (by kernel_rfl)),
  f220 := Tryd.func92.trans (congrArg some (by kernel_rfl)),
  f224 := Tryd.func96.trans (congrArg some (by kernel_rfl)),
  f225 := Tryd.func95.trans (congrArg some (by kernel_rfl)),
  f266 := Tryd.func98.trans (congrArg some (by kernel_rfl)),
  f267 := Tryd.func97.trans (congrArg some (by kernel_rfl)),
  f314 := Tryd.func99.trans (congrArg some (by kernel_rfl)),
  t3 := Tryd.underlying3,
  a3 := Tryd.isAgg3,
  z3 := Tryd.sizeOf3,
  v3 := Tryd.zeroValue3,
  t4 := Tryd.underlying4,
  a4 := Tryd.isAgg4,
  z4 := Tryd.sizeOf4,
  v4 := Tryd.zeroValue4,
  t5 := Tryd.underlying5,
  a5 := Tryd.isAgg5,
  z5 := Tryd.sizeOf5,
  v5 := Tryd.zeroValue5,
  t9 := Tryd.underlying9,
  a9 := Tryd.isAgg9,
  z9 := Tryd.sizeOf9,
  v9 := Tryd.zeroValue9,
  t46 := Tryd.underlying95,
  a46 := Tryd.isAgg95,
  z46 := Tryd.sizeOf95,
  v46 := Tryd.zeroValue95,
  t51 := Tryd.underlying118,
  a51 := Tryd.isAgg118,
  z51 := Tryd.sizeOf118,
  v51 := Tryd.zeroValue118,
  t59 := Tryd.underlying134,
  a59 := Tryd.isAgg134,
  z59 := Tryd.sizeOf134,
  v59 := Tryd.zeroValue134,
  t146 := Tryd.underlying143,
  a146 := Tryd.isAgg143,
  z146 := Tryd.sizeOf143,
  v146 := Tryd.zeroValue143,
  g1 := by kernel_rfl
}
theorem cut_any (s sep : ByteArray) (m : Int) (w : World) (hs : s.size < 4294967281) (hm : w.cell? ⟨21, 0, none⟩ = some (.int .i64 m)) :
    Calls Tryd.prog 88 #[.string s, .string sep] w fun e w' => e = .returned (.tuple #[.string ⟨(Lib.cut s.data.toList sep.data.toList).1.toArray⟩, .string ⟨(Lib.cut s.data.toList sep.data.toList).2.1.toArray⟩, .bool (Lib.cut s.data.toList sep.data.toList).2.2]) ∧ ∃ n, w' = w.drewN n :=
  Any.strings_Cut Tryd.laysCut s sep m w hs hm
end Go.Proofs.YtafmhhhboihdfaaDoor
