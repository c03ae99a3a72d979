/-
  What Select calls of Go's library, by the shelf's contracts: HasPrefix, Sort, Compact; and Clip. Conditions: those that each theorem names. The layings are printed by mklay.py, plainlay.py.
-/
import Derived.Test.YtafmhhhboihdfaaDoorApp
import Derived.Shelf.Strings.Prefix
import Derived.Shelf.Sort.Plain
import Derived.Shelf.Slices.In.SortNone
import Derived.Shelf.Slices.CompactS
namespace Go.Proofs.YtafmhhhboihdfaaDoor
open Go.RowKit Go.Shelf Go.Sort
set_option linter.unusedVariables false
def Tryd.laysHas_ren : Go.Shelf.Ren := ⟨fun | 99 => 41 | 206 => 59 | n => n, fun | 9 => 9 | 4 => 4 | 3 => 3 | n => n, fun | n => n⟩
theorem Tryd.laysHas : Go.Proofs.Lays.n99 Tryd.prog Tryd.laysHas_ren := {
  mixed := by kernel_rfl,
  f99 := Tryd.func41.trans (congrArg some (by kernel_rfl)),
  f206 := Tryd.func59.trans (congrArg some (by kernel_rfl)),
  t3 := Tryd.underlying3,
  a3 := Tryd.isAgg3,
  z3 := Tryd.sizeOf3,
  v3 := Tryd.zeroValue3,
  t4 := Tryd.underlying4,
  a4 := Tryd.isAgg4,
  z4 := Tryd.sizeOf4,
  v4 := Tryd.zeroValue4,
  t9 := Tryd.underlying9,
  a9 := Tryd.isAgg9,
  z9 := Tryd.sizeOf9,
  v9 := Tryd.zeroValue9
}
def Tryd.laysSort_ren : Go.Shelf.Ren := ⟨fun | 190 => 42 | 125 => 61 | 258 => 60 | 128 => 75 | 129 => 76 | 302 => 66 | 303 => 67 | 304 => 68 | 305 => 69 | 306 => 70 | 307 => 71 | 308 => 72 | 309 => 73 | 310 => 74 | 333 => 82 | 329 => 83 | 330 => 84 | 334 => 85 | 335 => 86 | 336 => 87 | 344 => 91 | n => n, fun | 31 => 45 | 9 => 9 | 3 => 3 | 46 => 95 | 0 => 0 | 51 => 118 | 53 => 66 | 4 => 4 | 183 => 112 | 182 => 111 | 131 => 35 | 5 => 5 | 218 => 127 | 222 => 131 | 228 => 137 | 229 => 138 | n => n, fun | n => n⟩
theorem Tryd.laysSort : Go.Proofs.Lays.n190 Tryd.prog Tryd.laysSort_ren := {
  mixed := by kernel_rfl,
  f125 := Tryd.func61.trans (congrArg some (by kernel_rfl)),
  f128 := Tryd.func75.trans (congrArg some (by kernel_rfl)),
  f129 := Tryd.func76.trans (congrArg some (by kernel_rfl)),
  f190 := Tryd.func42.trans (congrArg some (by kernel_rfl)),
  f258 := Tryd.func60.trans (congrArg some (by kernel_rfl)),
  f302 := Tryd.func66.trans (congrArg some (by kernel_rfl)),
  f303 := Tryd.func67.trans (congrArg some (by kernel_rfl)),
  f304 := Tryd.func68.trans (congrArg some (by kernel_rfl)),
  f305 := Tryd.func69.trans (congrArg some (by kernel_rfl)),
  f306 := Tryd.func70.trans (congrArg some (by kernel_rfl)),
  f307 := Tryd.func71.trans (congrArg some (by kernel_rfl)),
  f308 := Tryd.func72.trans (congrArg some (by kernel_rfl)),
  f309 := Tryd.func73.trans (congrArg some (by kernel_rfl)),
  f310 := Tryd.func74.trans (congrArg some (by kernel_rfl)),
  f329 := Tryd.func83.trans (congrArg some (by kernel_rfl)),
  f330 := Tryd.func84.trans (congrArg some (by kernel_rfl)),
  f333 := Tryd.func82.trans (congrArg some (by kernel_rfl)),
  f334 := Tryd.func85.trans (congrArg some (by kernel_rfl)),
  f335 := Tryd.func86.trans (congrArg some (by kernel_rfl)),
  f336 := Tryd.func87.trans (congrArg some (by kernel_rfl)),
  f344 := Tryd.func91.trans (congrArg some (by kernel_rfl)),
  t0 := Tryd.underlying0,
  a0 := Tryd.isAgg0,
  z0 := Tryd.sizeOf0,
  v0 := Tryd.zeroValue0,
  t3 := Tryd.underlying3,
  a3 := Tryd.isAgg3,
  z3 := Tryd.sizeOf3,
  v3 := Tryd.zeroValue3,
  t4 := Tryd.underlying4,
  a4 := Tryd.isAgg4,
  z4 := Tryd.sizeOf4,
  v4 := Tryd.zeroValue4,
  t5 := Tryd.underlying5,
  a5 := Tryd.isAgg5,
  z5 := Tryd.sizeOf5,
  v5 := Tryd.zeroValue5,
  t9 := Tryd.underlying9,
  a9 := Tryd.isAgg9,
  z9 := Tryd.sizeOf9,
  v9 := Tryd.zeroValue9,
  t31 := Tryd.underlying45,
  a31 := Tryd.isAgg45,
  z31 := Tryd.sizeOf45,
  v31 := Tryd.zeroValue45,
  t46 := Tryd.underlying95,
  a46 := Tryd.isAgg95,
  z46 := Tryd.sizeOf95,
  v46 := Tryd.zeroValue95,
  t51 := Tryd.underlying118,
  a51 := Tryd.isAgg118,
  z51 := Tryd.sizeOf118,
  v51 := Tryd.zeroValue118,
  t53 := Tryd.underlying66,
  a53 := Tryd.isAgg66,
  z53 := Tryd.sizeOf66,
  v53 := Tryd.zeroValue66,
  t131 := Tryd.underlying35,
  a131 := Tryd.isAgg35,
  z131 := Tryd.sizeOf35,
  v131 := Tryd.zeroValue35,
  t182 := Tryd.underlying111,
  a182 := Tryd.isAgg111,
  z182 := Tryd.sizeOf111,
  v182 := Tryd.zeroValue111,
  t183 := Tryd.underlying112,
  a183 := Tryd.isAgg112,
  z183 := Tryd.sizeOf112,
  v183 := Tryd.zeroValue112,
  t218 := Tryd.underlying127,
  a218 := Tryd.isAgg127,
  z218 := Tryd.sizeOf127,
  v218 := Tryd.zeroValue127,
  t222 := Tryd.underlying131,
  a222 := Tryd.isAgg131,
  z222 := Tryd.sizeOf131,
  v222 := Tryd.zeroValue131,
  t228 := Tryd.underlying137,
  a228 := Tryd.isAgg137,
  z228 := Tryd.sizeOf137,
  v228 := Tryd.zeroValue137,
  t229 := Tryd.underlying138,
  a229 := Tryd.isAgg138,
  z229 := Tryd.sizeOf138,
  v229 := Tryd.zeroValue138
}
def Tryd.laysCompact_ren : Go.Shelf.Ren := ⟨fun | 194 => 44 | n => n, fun | 31 => 45 | 9 => 9 | 3 => 3 | 4 => 4 | 0 => 0 | n => n, fun | n => n⟩
theorem Tryd.laysCompact : Go.Proofs.Lays.n194 Tryd.prog Tryd.laysCompact_ren := {
  mixed := by kernel_rfl,
  f194 := Tryd.func44.trans (congrArg some (by kernel_rfl)),
  t0 := Tryd.underlying0,
  a0 := Tryd.isAgg0,
  z0 := Tryd.sizeOf0,
  v0 := Tryd.zeroValue0,
  t3 := Tryd.underlying3,
  a3 := Tryd.isAgg3,
  z3 := Tryd.sizeOf3,
  v3 := Tryd.zeroValue3,
  t4 := Tryd.underlying4,
  a4 := Tryd.isAgg4,
  z4 := Tryd.sizeOf4,
  v4 := Tryd.zeroValue4,
  t9 := Tryd.underlying9,
  a9 := Tryd.isAgg9,
  z9 := Tryd.sizeOf9,
  v9 := Tryd.zeroValue9,
  t31 := Tryd.underlying45,
  a31 := Tryd.isAgg45,
  z31 := Tryd.sizeOf45,
  v31 := Tryd.zeroValue45
}
theorem hasprefix_any (s p : ByteArray) (w : World) : Calls Tryd.prog 41 #[.string s, .string p] w fun e w' => e = .returned (.bool (Lib.hasPrefix (bl s) (bl p))) ∧ w = w' :=
  (Any.strings_HasPrefix Tryd.laysHas s p w).mono fun e w' ⟨h1, h2⟩ => ⟨h1, h2.symm⟩
theorem sort_none (a : Option Addr) (cap : Nat) (w : World) : Calls Tryd.prog 42 #[.slice a 0 cap] w fun e w' => e = .returned (.tuple #[]) ∧ w = w' :=
  (Any.slices_Sort_string_none Tryd.laysSort a cap w).mono fun e w' ⟨h1, h2⟩ => ⟨h1, h2.symm⟩
theorem compact_none (a : Option Addr) (cap : Nat) (w : World) : Calls Tryd.prog 44 #[.slice a 0 cap] w fun e w' => e = .returned (.slice a 0 cap) ∧ w = w' :=
  (Any.slices_Compact_string_empty Tryd.laysCompact a cap w).mono fun e w' ⟨h1, h2⟩ => ⟨h1, h2.symm⟩
set_option maxRecDepth 100000 in
theorem clip_any (a : Option Addr) (n cap : Nat) (w : World) (hn : n ≤ cap) (hc : cap ≤ 9223372036854775807) : Calls Tryd.prog 43 #[.slice a n cap] w fun e w' => e = .returned (.slice a n n) ∧ w = w' := by
  have h1 : (n : Int) ≤ (cap : Int) := by omega
  go_enter Tryd.func43, Tryd.ntmps43
  go_wp2_with fail
  go_ret
  exact ⟨rfl, rfl⟩
end Go.Proofs.YtafmhhhboihdfaaDoor
