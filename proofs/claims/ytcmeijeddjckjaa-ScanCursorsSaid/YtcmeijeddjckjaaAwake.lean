/-
  pidginlaw2.awake returns true. Conditions: those that each theorem names.
-/
import Derived.Test.YtcmeijeddjckjaaConst2
import Derived.Lib.SlBytesConst
namespace Go.Proofs.Ytcmeijeddjckjaa
open Go.RowKit
theorem cells_all {w : World} {b off : Nat} {l : List UInt8} (vs : Array Value) (t : Nat) (fz : Nat × Nat) (h : w.heap[b]? = some (.cells vs t fz)) (hv : ∀ i (hi : i < l.length), vs[off + i]? = some (.int .u8 (iv l[i]))) :
    HasB w (some ⟨b, off, none⟩) l :=
  .inr ⟨b, off, rfl, (Array.getElem?_eq_some_iff.1 h).1, fun i hi => by
    rw [World.cell?, h]; simpa using hv i hi⟩
def known : List UInt8 := [48, 120, 49, 70, 103]
theorem cst_known : cst known = (31, 4, false) := by decide +kernel
set_option maxHeartbeats 400000 in
theorem awake_any (w : World) :
    Calls Try.prog 16 #[] w fun e w' => e = .returned (.bool true) ∧ Below w.heap.size w w' := by
  have kc := fun (w : World) (C : Array Value) (n c : Nat) => Lib.run_convert_bytes_const (P := Try.prog) w 22 5 C n c Try.underlying22 Try.underlying5
  have HC := Lib.hid cst_known
  go_enter Try.func16, Try.ntmps16
  go_wp2_with fail
  refine (const_any _ 5 known _ (cells_all _ 5 (5, 6) (heap_alloc_new w _) ?_) (by decide) (by decide)).mono ?_
  · intro i hi
    match i, hi with
    | 0, _ => rfl
    | 1, _ => rfl
    | 2, _ => rfl
    | 3, _ => rfl
    | 4, _ => rfl
  · rintro e w' ⟨rfl, rfl⟩
    rw [HC.out]
    go_wp2_with fail
    go_ret
    exact ⟨rfl, (Below.refl _ _).alloc (Nat.le_refl _) _⟩
end Go.Proofs.Ytcmeijeddjckjaa
