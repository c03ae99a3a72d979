/-
  The law's helpers: few, open. Conditions: those that each theorem names.
-/
import Derived.Test.YtafmhhhboihdfaaDoorLaw2
namespace Go.Proofs.YtafmhhhboihdfaaDoor
open Go.RowKit
set_option linter.unusedVariables false
set_option maxRecDepth 100000 in
theorem few_any (w : World) (a : Option Addr) (m cap : Nat) (hms : m ≤ cap) (hcs : cap ≤ 140737488351232) :
    Calls Tryd.prog 17 #[.slice a m cap] w fun e w' => e = .returned (.slice a (min m 60) cap) ∧ w = w' := by
  rcases Nat.lt_or_ge 60 m with h | h
  · have hI : (60 : Int) < (m : Int) := by omega
    have hI2 : (60 : Int) ≤ (cap : Int) := by omega
    rw [Nat.min_eq_right (by omega)]
    go_enter Tryd.func17, Tryd.ntmps17
    go_wp2_with fail
    go_ret
    exact ⟨rfl, rfl⟩
  · have hI : ¬ (60 : Int) < (m : Int) := by omega
    rw [Nat.min_eq_left (by omega)]
    go_enter Tryd.func17, Tryd.ntmps17
    go_wp2_with fail
    go_ret
    exact ⟨rfl, rfl⟩
theorem open_at (l : List UInt8) (j : Nat) (h : j < l.length) : openS (l.drop j) = (if l[j] = 91 then true else if l[j] = 92 then (if j + 1 = l.length then true else openS (l.drop (j + 2))) else openS (l.drop (j + 1))) := by
  rw [List.drop_eq_getElem_cons h, openS.eq_def]
  simp only
  by_cases h1 : l[j] = 91
  · rw [if_pos h1, if_pos h1]
  rw [if_neg h1, if_neg h1]
  by_cases h2 : l[j] = 92
  · rw [if_pos h2, if_pos h2]
    by_cases h3 : j + 1 = l.length
    · rw [if_pos h3, List.drop_of_length_le (by omega)]
    · rw [if_neg h3, List.drop_eq_getElem_cons (show j + 1 < l.length by omega)]
  · rw [if_neg h2, if_neg h2]
set_option maxRecDepth 100000 in
set_option maxHeartbeats 800000 in
theorem open_any (w : World) (a : Option Addr) (m cap : Nat) (l : List UInt8) (hb : HasB w a l) (hm : l.length = m) (hms : m ≤ cap) (hcs : cap ≤ 140737488351232) :
    Calls Tryd.prog 18 #[.slice a m cap] w fun e w' => e = .returned (.bool (openS l)) ∧ w = w' := by
  have HB := Lib.hid hb
  have HM := Lib.hid hm
  have HO := Lib.hid (open_at l)
  obtain ⟨o, ho⟩ : ∃ o, openS l = o := ⟨_, rfl⟩
  rw [ho]
  have HR := Lib.hid ho
  clear hb hm ho
  go_enter Tryd.func18, Tryd.ntmps18
  go_wp2_with fail
  go_loop [3] (fun k => ∃ j : Nat, k = .int .i64 j ∧ j ≤ m ∧ openS (l.drop j) = o) (fun k => m - (intOf k).toNat)
  case atStart => exact ⟨0, rfl, by omega, HR.out⟩
  case round =>
    obtain ⟨j, rfl, hj, he⟩ := hrel
    by_cases hlt : j < m
    · have hj2 : j < l.length := by rw [HM.out]; exact hlt
      rcases HB.out with h0 | ⟨b, off, rfl, hlt2, hc⟩
      · subst h0; simp at hj2
      have hcj := hc j hj2
      have HE := Lib.hid (he.symm.trans (HO.out j hj2))
      have hx0 := iv_lo l[j]
      have hx1 := iv_hi l[j]
      have hi1 : (j : Int) < (m : Int) := by omega
      clear he hc
      by_cases h1 : l[j] = 91
      · rw [if_pos h1] at HE
        have hx : iv l[j] = 91 := by rw [h1]; rfl
        rw [hx] at hcj
        clear hx0 hx1 hx h1
        go_wp2_with fail
        go_ret
        exact ⟨by rw [HE.out]; rfl, rfl⟩
      · have hn1 : ¬ iv l[j] = 91 := fun e => h1 (iv_inj (e.trans rfl))
        by_cases h2 : l[j] = 92
        · rw [if_neg h1, if_pos h2] at HE
          have hx : iv l[j] = 92 := by rw [h2]; rfl
          rw [hx] at hcj
          clear hx0 hx1 hx h1 h2 hn1
          by_cases h3 : j + 1 = m
          · rw [HM.out, if_pos h3] at HE
            have hi3 : ((j : Int) + 1 == (m : Int)) = true := by simp; omega
            have H3 := Lib.hid h3
            clear h3
            go_wp2_with fail
            go_ret
            exact ⟨by rw [HE.out]; rfl, rfl⟩
          · rw [HM.out, if_neg h3] at HE
            have hi3 : ((j : Int) + 1 == (m : Int)) = false := by simp; omega
            go_wp2_with fail
            go_round
            case rel => exact ⟨j + 2, by go_num, by omega, HE.out.symm⟩
            case measure => simp [intOf]; omega
        · rw [if_neg h1, if_neg h2] at HE
          have hn2 : ¬ iv l[j] = 92 := fun e => h2 (iv_inj (e.trans rfl))
          generalize iv l[j] = x at *
          go_wp2_with fail
          go_round
          case rel => exact ⟨j + 1, by go_num, by omega, HE.out.symm⟩
          case measure => simp [intOf]; omega
    · obtain rfl : j = m := by omega
      have HE := Lib.hid (show openS [] = o by rw [← he, List.drop_of_length_le (by rw [HM.out]; omega)])
      clear he
      go_wp2_with fail
      go_ret
      exact ⟨by rw [← HE.out]; rfl, rfl⟩
end Go.Proofs.YtafmhhhboihdfaaDoor
