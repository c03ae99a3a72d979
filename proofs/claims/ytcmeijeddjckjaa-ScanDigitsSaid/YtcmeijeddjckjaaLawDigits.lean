/-
  The walk of the law ScanDigits. Conditions: those that each theorem names.
-/
import Derived.Test.YtcmeijeddjckjaaAwake
namespace Go.Proofs.Ytcmeijeddjckjaa
open Go.RowKit
set_option maxHeartbeats 400000 in
theorem ScanDigits_walk (a : Option Addr) (cap : Nat) (l : List UInt8) (base : Int) (w : World) (hb : HasB w a l) (hlc : l.length ≤ cap) (hr : cap ≤ 140737488351232) (_ : -9223372036854775808 ≤ base ∧ base ≤ 9223372036854775807) :
    Calls Try.prog 3 #[.slice a l.length cap, .int .i64 base] w fun e w' => e = .returned (.bool true) ∧ Below w.heap.size w w' := by
  have h1 := Lib.hid (sdigits_any a cap l base w hb (by omega))
  have h2 := Lib.hid (rdigits_any a cap l base w hb (by omega))
  have h3 := Lib.hid (const_any a cap l w hb (by omega) hlc)
  have h4 := Lib.hid (rconst_any a cap l w hb (by omega) hlc)
  clear hb
  generalize digN base l = n1 at *
  generalize digK base l = n2 at *
  generalize digO base l = n3 at *
  generalize cst l = c at *
  obtain ⟨c1, c2, c3⟩ := c
  go_enter Try.func3, Try.ntmps3
  go_wp2_with fail
  refine h1.out.mono ?_; rintro e w' ⟨rfl, rfl⟩
  go_wp2_with fail
  refine h2.out.mono ?_; rintro e w' ⟨rfl, rfl⟩
  go_wp2_with fail
  refine h3.out.mono ?_; rintro e w' ⟨rfl, rfl⟩
  go_wp2_with fail
  refine h4.out.mono ?_; rintro e w' ⟨rfl, rfl⟩
  go_wp2_with fail
  refine (awake_any _).mono ?_; rintro e w' ⟨rfl, hbel⟩
  go_wp2_with fail
  go_ret
  exact ⟨rfl, hbel⟩
end Go.Proofs.Ytcmeijeddjckjaa
