/-
  pidginref2.Name computes the plain function; the law ScanNames' walk. Conditions: those that each theorem names.
-/
import Derived.Test.YtcmeijeddjckjaaNames
namespace Go.Proofs.Ytcmeijeddjckjaa
open Go.RowKit
set_option maxHeartbeats 1000000 in
theorem rname_any (a : Option Addr) (cap : Nat) (l : List UInt8) (w : World) (hb : HasB w a l) (hl : l.length ≤ 4611686018427387904) :
    Calls Try.prog 18 #[.slice a l.length cap] w fun e w' => e = .returned (.int .i64 (nl 0 l)) ∧ w = w' := by
  go_enter Try.func18, Try.ntmps18
  go_wp2
  go_loop [3] (fun k => ∃ j : Nat, j ≤ l.length ∧ (∀ i (hi : i < l.length), i < j → nok i (iv l[i]) = true) ∧ k = .int .i64 j) (fun k => l.length - (intOf k).toNat)
  case atStart => exact ⟨0, by omega, by omega, rfl⟩
  case round =>
    obtain ⟨j, hj, hall, rfl⟩ := hrel
    have HA := Lib.hid hall; clear hall
    by_cases hlt : j < l.length
    · obtain ⟨b, off, rfl, hbs, hc⟩ := hb.at hlt
      have hcj := hc j hlt
      clear hc hb
      have hx0 := iv_lo l[j]
      have hx1 := iv_hi l[j]
      have HN := Lib.hid (fun hp => name_all HA.out hlt hp)
      have HO := Lib.hid (fun (he : nok j (iv l[j]) = false) => name_out hj HA.out (fun _ => he))
      have C1 := Lib.hid (letter_any (iv l[j]) w hx0 hx1)
      have C2 := Lib.hid (part_any (iv l[j]) w hx0 hx1)
      have HK := Lib.hid (show nok j (iv l[j]) = (letterB (iv l[j]) || (decide (0 < j) && partB (iv l[j]))) from rfl)
      generalize iv l[j] = x at *
      generalize nok j x = ok at *
      generalize letterB x = b1 at *
      generalize partB x = b2 at *
      cases b1 with
      | true =>
        have HY := Lib.hid (HN.out (by rw [HK.out]; rfl))
        go_wp2_with fail
        refine C1.out.mono ?_; rintro e w' ⟨rfl, rfl⟩
        go_wp2_with fail
        go_round
        case rel => exact ⟨j + 1, by omega, HY.out, by go_num⟩
        case measure => simp [intOf]; omega
      | false =>
        rcases Nat.eq_zero_or_pos j with hz | hz
        · have HF := Lib.hid (HO.out (by rw [HK.out, hz]; rfl))
          have hz0 : ¬ (0 : Int) < (j : Int) := by omega
          clear hz
          go_wp2_with fail
          refine C1.out.mono ?_; rintro e w' ⟨rfl, rfl⟩
          go_wp2_with fail
          go_ret
          rw [HF.out]
          exact ⟨rfl, rfl⟩
        · have hz0 : (0 : Int) < (j : Int) := by omega
          cases b2 with
          | true =>
            have HY := Lib.hid (HN.out (by rw [HK.out]; simp [hz]))
            go_wp2_with fail
            refine C1.out.mono ?_; rintro e w' ⟨rfl, rfl⟩
            go_wp2_with fail
            refine C2.out.mono ?_; rintro e w' ⟨rfl, rfl⟩
            go_wp2_with fail
            go_round
            case rel => exact ⟨j + 1, by omega, HY.out, by go_num⟩
            case measure => simp [intOf]; omega
          | false =>
            have HF := Lib.hid (HO.out (by rw [HK.out]; simp))
            go_wp2_with fail
            refine C1.out.mono ?_; rintro e w' ⟨rfl, rfl⟩
            go_wp2_with fail
            refine C2.out.mono ?_; rintro e w' ⟨rfl, rfl⟩
            go_wp2_with fail
            go_ret
            rw [HF.out]
            exact ⟨rfl, rfl⟩
    · have HO := Lib.hid (name_out hj HA.out (fun h => absurd h hlt))
      go_wp2
      go_ret
      rw [HO.out]
      exact ⟨rfl, rfl⟩
set_option maxHeartbeats 400000 in
theorem ScanNames_walk (a : Option Addr) (cap : Nat) (l : List UInt8) (w : World) (hb : HasB w a l) (hlc : l.length ≤ cap) (hr : cap ≤ 140737488351232) :
    Calls Try.prog 4 #[.slice a l.length cap] w fun e w' => e = .returned (.bool true) ∧ Below w.heap.size w w' := by
  have h1 := Lib.hid (sname_any a cap l w hb (by omega))
  have h2 := Lib.hid (rname_any a cap l w hb (by omega))
  clear hb
  generalize nl 0 l = n at *
  go_enter Try.func4, Try.ntmps4
  go_wp2_with fail
  refine h1.out.mono ?_; rintro e w' ⟨rfl, rfl⟩
  go_wp2_with fail
  refine h2.out.mono ?_; rintro e w' ⟨rfl, rfl⟩
  go_wp2_with fail
  refine (awake_any _).mono ?_; rintro e w' ⟨rfl, hbel⟩
  go_wp2_with fail
  go_ret
  exact ⟨rfl, hbel⟩
end Go.Proofs.Ytcmeijeddjckjaa
