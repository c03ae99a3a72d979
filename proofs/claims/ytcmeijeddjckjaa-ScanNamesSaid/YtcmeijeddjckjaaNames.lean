/-
  scan.Name and pidginref2.Name compute the plain function; so the law ScanNames holds. Conditions: those that each theorem names.
-/
import Derived.Test.YtcmeijeddjckjaaAwake
namespace Go.Proofs.Ytcmeijeddjckjaa
open Go.RowKit
def letterB (x : Int) : Bool := decide (97 ≤ x ∧ x ≤ 122 ∨ 65 ≤ x ∧ x ≤ 90 ∨ x = 95)
def partB (x : Int) : Bool := decide ((97 ≤ x ∧ x ≤ 122 ∨ 65 ≤ x ∧ x ≤ 90 ∨ x = 95) ∨ 48 ≤ x ∧ x ≤ 57)
def nok (i : Nat) (x : Int) : Bool := letterB x || (decide (0 < i) && partB x)
def nl : Nat → List UInt8 → Nat
  | _, [] => 0
  | i, c :: t => if nok i (iv c) then nl (i + 1) t + 1 else 0
theorem nl_stop (l : List UInt8) : ∀ (i k : Nat), k ≤ l.length → (∀ j (h : j < l.length), j < k → nok (i + j) (iv l[j]) = true) → (∀ (h : k < l.length), nok (i + k) (iv l[k]) = false) → nl i l = k := by
  induction l with
  | nil => intro i k hk _ _; simp at hk; simp [nl, hk]
  | cons c t ih =>
    intro i k hk h1 h2
    cases k with
    | zero =>
      have := h2 (by simp)
      simp at this
      simp [nl, this]
    | succ k =>
      have h0 : nok i (iv c) = true := h1 0 (by simp) (by omega)
      rw [nl, if_pos h0, ih (i + 1) k (by simpa using hk) ?_ ?_]
      · intro j hj hjk
        have := h1 (j + 1) (by simpa using hj) (by omega)
        rw [show i + 1 + j = i + (j + 1) by omega]; simpa using this
      · intro h
        have := h2 (by simpa using h)
        rw [show i + 1 + k = i + (k + 1) by omega]; simpa using this
set_option maxHeartbeats 400000 in
theorem letter_any (x : Int) (w : World) (h0 : 0 ≤ x) (h1 : x ≤ 255) :
    Calls Try.prog 38 #[.int .u8 x] w fun e w' => e = .returned (.bool (letterB x)) ∧ w = w' := by
  go_enter Try.func38, Try.ntmps38
  go_wp2
  all_goals
    go_ret
    refine ⟨ret_bool ?_, rfl⟩
    rw [Bool.eq_iff_iff]; simp only [letterB, decide_eq_true_eq, Bool.or_eq_true, beq_iff_eq, true_iff]; omega
set_option maxHeartbeats 400000 in
theorem part_any (x : Int) (w : World) (h0 : 0 ≤ x) (h1 : x ≤ 255) :
    Calls Try.prog 39 #[.int .u8 x] w fun e w' => e = .returned (.bool (partB x)) ∧ w = w' := by
  have CL := Lib.hid (letter_any x w h0 h1)
  have hl : letterB x = true → partB x = true := by simp only [letterB, partB, decide_eq_true_eq]; exact .inl
  have hn : letterB x = false → partB x = decide (48 ≤ x ∧ x ≤ 57) := by
    intro h; simp only [letterB, decide_eq_false_iff_not] at h; simp only [partB, h, false_or]
  have HL := Lib.hid hl; clear hl
  have HN := Lib.hid hn; clear hn
  generalize letterB x = b at *
  go_enter Try.func39, Try.ntmps39
  go_wp2_with fail
  refine CL.out.mono ?_; rintro e w' ⟨rfl, rfl⟩
  cases b
  · have HN' := Lib.hid (HN.out rfl)
    go_wp2_with fail
    all_goals
      go_ret
      refine ⟨ret_bool ?_, rfl⟩
      rw [HN'.out, Bool.eq_iff_iff]; simp; try omega
  · have HL' := Lib.hid (HL.out rfl)
    go_wp2_with fail
    go_ret
    exact ⟨ret_bool HL'.out.symm, rfl⟩
theorem nok_yes {j : Nat} {x : Int} (h : (97 ≤ x ∧ x ≤ 122 ∨ 65 ≤ x ∧ x ≤ 90 ∨ x = 95) ∨ 0 < j ∧ 48 ≤ x ∧ x ≤ 57) : nok j x = true := by
  simp only [nok, letterB, partB, Bool.or_eq_true, Bool.and_eq_true, decide_eq_true_eq]; omega
theorem nok_no {j : Nat} {x : Int} (h : ¬ (97 ≤ x ∧ x ≤ 122 ∨ 65 ≤ x ∧ x ≤ 90 ∨ x = 95)) (h2 : j = 0 ∨ ¬ (48 ≤ x ∧ x ≤ 57)) : nok j x = false := by
  simp only [nok, letterB, partB, Bool.or_eq_false_iff, Bool.and_eq_false_iff, decide_eq_false_iff_not]; omega
theorem name_all {l : List UInt8} {k : Nat} (h : ∀ i (hi : i < l.length), i < k → nok i (iv l[i]) = true) (hk : k < l.length) (hp : nok k (iv l[k]) = true) : ∀ i (hi : i < l.length), i < k + 1 → nok i (iv l[i]) = true := by
  intro i hi hik
  rcases Nat.lt_or_ge i k with h1 | h1
  · exact h i hi h1
  · obtain rfl : i = k := by omega
    exact hp
theorem name_out {l : List UInt8} {k : Nat} (hk : k ≤ l.length) (h : ∀ i (hi : i < l.length), i < k → nok i (iv l[i]) = true) (he : ∀ (h : k < l.length), nok k (iv l[k]) = false) : nl 0 l = k :=
  nl_stop l 0 k hk (fun j hj hjk => by simpa using h j hj hjk) (fun h => by simpa using he h)

set_option maxHeartbeats 1000000 in
theorem sname_any (a : Option Addr) (cap : Nat) (l : List UInt8) (w : World) (hb : HasB w a l) (hl : l.length ≤ 4611686018427387904) :
    Calls Try.prog 17 #[.slice a l.length cap] w fun e w' => e = .returned (.int .i64 (nl 0 l)) ∧ w = w' := by
  go_enter Try.func17, Try.ntmps17
  go_wp2
  go_loop [8] (fun k => ∃ j : Nat, j ≤ l.length ∧ (∀ i (hi : i < l.length), i < j → nok i (iv l[i]) = true) ∧ k = .int .i64 j) (fun k => l.length - (intOf k).toNat)
  case atStart => exact ⟨0, by omega, by omega, rfl⟩
  case round =>
    obtain ⟨j, hj, hall, rfl⟩ := hrel
    have HA := Lib.hid hall; clear hall
    by_cases hlt : j < l.length
    · obtain ⟨b, off, rfl, hbs, hc⟩ := hb.at hlt
      have hcj := hc j hlt
      clear hc hb
      have hx0 := iv_lo l[j]
      have hx1 := iv_hi l[j]
      have HN := Lib.hid (fun hp => name_all HA.out hlt hp)
      have HO := Lib.hid (fun (he : nok j (iv l[j]) = false) => name_out hj HA.out (fun _ => he))
      generalize iv l[j] = x at *
      rcases (show (x < 48 ∨ 57 < x ∧ x < 65 ∨ 90 < x ∧ x < 95 ∨ 95 < x ∧ x < 97 ∨ 122 < x) ∨ (48 ≤ x ∧ x ≤ 57) ∨ (65 ≤ x ∧ x ≤ 90 ∨ 94 < x ∧ x < 96 ∨ 97 ≤ x ∧ x ≤ 122) by omega) with hx | hx | hx
      · have HF := Lib.hid (HO.out (nok_no (by omega) (.inr (by omega))))
        have h95 : (x == 95) = false := by simp; omega
        rcases Nat.eq_zero_or_pos j with hz | hz
        · have hjz : ((j : Int) == 0) = true := by simp; omega
          clear hz
          rcases hx with hx | hx | hx | hx | hx
          all_goals
            try (have e1 : decide (x ≤ 122) = false := by simp; omega)
            try (have e2 : decide (x ≤ 90) = false := by simp; omega)
            go_wp2_with fail
            go_ret
            rw [HF.out]
            exact ⟨rfl, rfl⟩
        · have hjz : ((j : Int) == 0) = false := by simp; omega
          rcases hx with hx | hx | hx | hx | hx
          all_goals
            try (have e1 : decide (x ≤ 122) = false := by simp; omega)
            try (have e2 : decide (x ≤ 90) = false := by simp; omega)
            go_wp2_with fail
            go_ret
            rw [HF.out]
            exact ⟨rfl, rfl⟩
      · have h95 : (x == 95) = false := by simp; omega
        rcases Nat.eq_zero_or_pos j with hz | hz
        · have HF := Lib.hid (HO.out (nok_no (by omega) (.inl hz)))
          have hjz : ((j : Int) == 0) = true := by simp; omega
          clear hz
          go_wp2_with fail
          go_ret
          rw [HF.out]
          exact ⟨rfl, rfl⟩
        · have HY := Lib.hid (HN.out (nok_yes (.inr ⟨hz, hx⟩)))
          have hjz : ((j : Int) == 0) = false := by simp; omega
          go_wp2_with fail
          go_round
          case rel => exact ⟨j + 1, by omega, HY.out, by go_num⟩
          case measure => simp [intOf]; omega
      · have HY := Lib.hid (HN.out (nok_yes (.inl (by omega))))
        rcases hx with hx | hx | hx
        all_goals
          go_wp2_with fail
          go_round
          case rel => exact ⟨j + 1, by omega, HY.out, by go_num⟩
          case measure => simp [intOf]; omega
    · have HO := Lib.hid (name_out hj HA.out (fun h => absurd h hlt))
      go_wp2
      go_ret
      rw [HO.out]
      exact ⟨ret_int (by omega), rfl⟩
end Go.Proofs.Ytcmeijeddjckjaa
