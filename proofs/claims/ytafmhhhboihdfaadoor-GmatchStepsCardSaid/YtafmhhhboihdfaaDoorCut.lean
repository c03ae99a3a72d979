/-
  strings.Cut by the shelf's contract, laid over this dump. Conditions: those that each theorem names.
-/
import Derived.Test.YtafmhhhboihdfaaDoorSet3
import Derived.Ground.NamesProg
import Derived.Shelf.Lay
import Derived.Shelf.Strings.Cut
namespace Go.Proofs.YtafmhhhboihdfaaDoor
open Go.RowKit Go.Shelf
shelf_lay Lays.n145 Nm 145 at Tryd as Tryd.laysCut
theorem cut_any (s sep : ByteArray) (m : Int) (w : World) (hs : s.size < 4294967281) (hm : w.cell? ⟨21, 0, none⟩ = some (.int .i64 m)) :
    Calls Tryd.prog 88 #[.string s, .string sep] w fun e w' => e = .returned (.tuple #[.string ⟨(Lib.cut s.data.toList sep.data.toList).1.toArray⟩, .string ⟨(Lib.cut s.data.toList sep.data.toList).2.1.toArray⟩, .bool (Lib.cut s.data.toList sep.data.toList).2.2]) ∧ ∃ n, w' = w.drewN n :=
  Any.strings_Cut Tryd.laysCut s sep m w hs hm
end Go.Proofs.YtafmhhhboihdfaaDoor
