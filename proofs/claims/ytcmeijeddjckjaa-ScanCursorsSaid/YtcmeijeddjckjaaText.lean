/-
  Both Text functions and both Base functions at any base compute the plain functions; the walk of the law ScanTexts. Conditions: those that each theorem names.
-/
import Derived.Test.YtcmeijeddjckjaaBase2
import Derived.Test.YtcmeijeddjckjaaLawWhole
namespace Go.Proofs.Ytcmeijeddjckjaa
open Go.RowKit
set_option maxHeartbeats 400000 in
theorem baseA_any (n base : Int) (up : Bool) (w : World) (h0 : 0 ≤ n) (h1 : n ≤ 18446744073709551615) :
    Calls Try.prog 19 #[.int .u64 n, .int .i64 base, .bool up] w fun e w' => e = .returned (.string ⟨(bsA up base n).toArray⟩) ∧ Below w.heap.size w w' := by
  by_cases hbase : 2 ≤ base ∧ base ≤ 16
  · have : bsA up base n = bs up base n := by simp [bsA, okb, hbase]
    rw [this]; exact base_any n base up w h0 h1 hbase.1 hbase.2
  · have E := Lib.hid (show bsA up base n = [] by simp only [bsA, okb, hbase]; rfl)
    rcases (show base < 2 ∨ 16 < base by omega) with h | h
    all_goals
      clear hbase
      go_enter Try.func19, Try.ntmps19
      go_wp2
      go_ret
      rw [E.out]
      exact ⟨rfl, Below.refl _ _⟩
set_option maxHeartbeats 400000 in
theorem rbaseA_any (n base : Int) (up : Bool) (w : World) (h0 : 0 ≤ n) (h1 : n ≤ 18446744073709551615) :
    Calls Try.prog 22 #[.int .u64 n, .int .i64 base, .bool up] w fun e w' => e = .returned (.string ⟨(bsA up base n).toArray⟩) ∧ Below w.heap.size w w' := by
  by_cases hbase : 2 ≤ base ∧ base ≤ 16
  · have : bsA up base n = bs up base n := by simp [bsA, okb, hbase]
    rw [this]; exact rbase_any n base up w h0 h1 hbase.1 hbase.2
  · have E := Lib.hid (show bsA up base n = [] by simp only [bsA, okb, hbase]; rfl)
    rcases (show base < 2 ∨ 16 < base by omega) with h | h
    all_goals
      clear hbase
      go_enter Try.func22, Try.ntmps22
      go_wp2
      go_ret
      rw [E.out]
      exact ⟨rfl, Below.refl _ _⟩
theorem u64_neg {n : Int} (h0 : -9223372036854775808 ≤ n) (h1 : n < 0) : IntKind.u64.wrap (-(IntKind.u64.wrap n)) = -n := by
  rw [IntKind.wrap_u64, IntKind.wrap_u64]; omega
set_option maxHeartbeats 400000 in
theorem text_any (n : Int) (w : World) (h0 : -9223372036854775808 ≤ n) (h1 : n ≤ 9223372036854775807) :
    Calls Try.prog 20 #[.int .i64 n] w fun e w' => e = .returned (.string ⟨(txt n).toArray⟩) ∧ Below w.heap.size w w' := by
  by_cases hn : n < 0
  · have E := Lib.hid (show txt n = 45 :: bs false 10 (-n) by simp [txt, hn])
    have hw := u64_neg h0 hn
    have C := Lib.hid (base_any (-n) 10 false w (by omega) (by omega) (by omega) (by omega))
    have hl := bs_len false 10 (-n)
    generalize bs false 10 (-n) = l at *
    go_enter Try.func20, Try.ntmps20
    go_wp2_with fail
    refine C.out.mono ?_; rintro e w1 ⟨rfl, hb1⟩
    go_wp2_with fail
    go_ret
    rw [E.out, ← bapp]
    exact ⟨rfl, hb1⟩
  · have E := Lib.hid (show txt n = bs false 10 n by simp [txt, hn])
    have C := Lib.hid (base_any n 10 false w (by omega) (by omega) (by omega) (by omega))
    have hn2 := Int.not_lt.1 hn; clear hn
    go_enter Try.func20, Try.ntmps20
    go_wp2_with fail
    refine C.out.mono ?_; rintro e w1 ⟨rfl, hb1⟩
    go_wp2_with fail
    go_ret
    rw [E.out]
    exact ⟨rfl, hb1⟩
set_option maxHeartbeats 400000 in
theorem rtext_any (n : Int) (w : World) (h0 : -9223372036854775808 ≤ n) (h1 : n ≤ 9223372036854775807) :
    Calls Try.prog 21 #[.int .i64 n] w fun e w' => e = .returned (.string ⟨(txt n).toArray⟩) ∧ Below w.heap.size w w' := by
  by_cases hn : n < 0
  · have E := Lib.hid (show txt n = 45 :: bs false 10 (-(n + 1) + 1) by simp only [txt, hn, if_true]; rw [show -(n + 1) + 1 = -n by omega])
    have C := Lib.hid (rbase_any (-(n + 1) + 1) 10 false w (by omega) (by omega) (by omega) (by omega))
    have hl := bs_len false 10 (-(n + 1) + 1)
    generalize bs false 10 (-(n + 1) + 1) = l at *
    go_enter Try.func21, Try.ntmps21
    go_wp2_with fail
    refine C.out.mono ?_; rintro e w1 ⟨rfl, hb1⟩
    go_wp2_with fail
    go_ret
    rw [E.out, ← bapp]
    exact ⟨rfl, hb1⟩
  · have E := Lib.hid (show txt n = bs false 10 n by simp [txt, hn])
    have C := Lib.hid (rbase_any n 10 false w (by omega) (by omega) (by omega) (by omega))
    have hn2 := Int.not_lt.1 hn; clear hn
    go_enter Try.func21, Try.ntmps21
    go_wp2_with fail
    refine C.out.mono ?_; rintro e w1 ⟨rfl, hb1⟩
    go_wp2_with fail
    go_ret
    rw [E.out]
    exact ⟨rfl, hb1⟩
set_option maxHeartbeats 400000 in
theorem ScanTexts_walk (n u base : Int) (up : Bool) (w : World) (hn : -9223372036854775808 ≤ n ∧ n ≤ 9223372036854775807) (hu : 0 ≤ u ∧ u ≤ 18446744073709551615) (_hb : -9223372036854775808 ≤ base ∧ base ≤ 9223372036854775807) :
    Calls Try.prog 6 #[.int .i64 n, .int .u64 u, .int .i64 base, .bool up] w fun e w' => e = .returned (.bool true) ∧ Below w.heap.size w w' := by
  have h1 := Lib.hid (fun w => text_any n w hn.1 hn.2)
  have h2 := Lib.hid (fun w => rtext_any n w hn.1 hn.2)
  have h3 := Lib.hid (fun w => baseA_any u base up w hu.1 hu.2)
  have h4 := Lib.hid (fun w => rbaseA_any u base up w hu.1 hu.2)
  generalize txt n = t at *
  generalize bsA up base u = b at *
  go_enter Try.func6, Try.ntmps6
  go_wp2_with fail
  refine (h1.out _).mono ?_; rintro e w1 ⟨rfl, hb1⟩
  go_wp2_with fail
  refine (h2.out _).mono ?_; rintro e w2 ⟨rfl, hb2⟩
  go_wp2_with fail
  refine (h3.out _).mono ?_; rintro e w3 ⟨rfl, hb3⟩
  go_wp2_with fail
  refine (h4.out _).mono ?_; rintro e w4 ⟨rfl, hb4⟩
  go_wp2_with fail
  refine (awake_any _).mono ?_; rintro e w5 ⟨rfl, hb5⟩
  go_wp2_with fail
  go_ret
  exact ⟨rfl, below_go (below_go (below_go (below_go hb1 hb2) hb3) hb4) hb5⟩
end Go.Proofs.Ytcmeijeddjckjaa
