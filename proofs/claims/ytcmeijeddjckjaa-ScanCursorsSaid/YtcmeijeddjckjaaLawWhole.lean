/-
  The walk of the law ScanWhole. Conditions: those that each theorem names.
-/
import Derived.Test.YtcmeijeddjckjaaWhole2
namespace Go.Proofs.Ytcmeijeddjckjaa
open Go.RowKit
theorem below_go {w a b : World} (h : Below w.heap.size w a) (k : Below a.heap.size a b) : Below w.heap.size w b := h.trans (k.mono h.size)
set_option maxHeartbeats 400000 in
theorem ScanWhole_walk (s : ByteArray) (w : World) (hs : s.size ≤ 140737488351232) :
    Calls Try.prog 7 #[.string s] w fun e w' => e = .returned (.bool true) ∧ Below w.heap.size w w' := by
  have h1 := Lib.hid (whole_any s w hs)
  have h2 := Lib.hid (fun w => rwhole_any s w hs)
  generalize whole (bl s) = c at *
  obtain ⟨c1, c2⟩ := c
  go_enter Try.func7, Try.ntmps7
  go_wp2_with fail
  refine h1.out.mono ?_; rintro e w1 ⟨rfl, hb1⟩
  go_wp2_with fail
  refine (h2.out _).mono ?_; rintro e w2 ⟨rfl, hb2⟩
  go_wp2_with fail
  refine (awake_any _).mono ?_; rintro e w3 ⟨rfl, hb3⟩
  go_wp2_with fail
  go_ret
  exact ⟨rfl, below_go (below_go hb1 hb2) hb3⟩
end Go.Proofs.Ytcmeijeddjckjaa
