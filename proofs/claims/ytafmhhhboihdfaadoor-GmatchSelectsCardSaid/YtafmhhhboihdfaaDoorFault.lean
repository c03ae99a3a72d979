/-
  Errors: fault.At, fault.In, fault.Of. Conditions: those that each theorem names.
-/
import Derived.Test.YtafmhhhboihdfaaDoorSet3
namespace Go.Proofs.YtafmhhhboihdfaaDoor
open Go.RowKit
set_option linter.unusedVariables false
set_option maxRecDepth 100000 in
theorem at_any (w : World) (t : TypeId) (v : Value) (n : Int) :
    Calls Tryd.prog 47 #[.iface t v, .int .i64 n] w fun e w' => ∃ v', e = .returned (.iface 99 v') ∧ Below w.heap.size w w' := by
  go_enter Tryd.func47, Tryd.ntmps47
  go_wp2_with fail
  go_ret
  exact ⟨_, rfl, (Below.refl _ _).alloc (Nat.le_refl _) _⟩
set_option maxRecDepth 100000 in
theorem in_any (w : World) (t : TypeId) (v : Value) (n : Int) :
    Calls Tryd.prog 46 #[.iface t v, .int .i64 n] w fun e w' => ∃ v', e = .returned (.iface 96 v') ∧ Below w.heap.size w w' := by
  go_enter Tryd.func46, Tryd.ntmps46
  go_wp2_with fail
  go_ret
  exact ⟨_, rfl, (Below.refl _ _).alloc (Nat.le_refl _) _⟩
/-- the package variables that Of reads hold errors -/
def Errs (w : World) : Prop := 10 ≤ w.heap.size ∧ ∀ g, g < 10 → ∃ t v, w.cell? ⟨g, 0, none⟩ = some (.iface t v)
theorem Errs.below {w w' : World} (h : Errs w) (g : Below w.heap.size w w') : Errs w' :=
  ⟨Nat.le_trans h.1 g.size, fun k hk => by
    obtain ⟨t, v, hc⟩ := h.2 k hk
    exact ⟨t, v, (g.cell (p := ⟨k, 0, none⟩) (by have := h.1; show k < _; omega)).trans hc⟩⟩
set_option maxRecDepth 100000 in
set_option maxHeartbeats 800000 in
theorem of_err (w : World) (c : Nat) (h : Errs w) (h1 : 1 ≤ c) (h2 : c ≤ 10) :
    Calls Tryd.prog 48 #[.int .i64 c] w fun e w' => ∃ t v, e = .returned (.iface t v) ∧ w = w' := by
  obtain ⟨t, v, hc⟩ := h.2 (c - 1) (by omega)
  clear h
  rcases (show c = 1 ∨ c = 2 ∨ c = 3 ∨ c = 4 ∨ c = 5 ∨ c = 6 ∨ c = 7 ∨ c = 8 ∨ c = 9 ∨ c = 10 by omega) with rfl | rfl | rfl | rfl | rfl | rfl | rfl | rfl | rfl | rfl
  all_goals
    clear h1 h2
    simp only [Nat.reduceSub] at hc
    go_enter Tryd.func48, Tryd.ntmps48
    go_wp2_with fail
    go_ret
    exact ⟨_, _, rfl, rfl⟩
end Go.Proofs.YtafmhhhboihdfaaDoor
