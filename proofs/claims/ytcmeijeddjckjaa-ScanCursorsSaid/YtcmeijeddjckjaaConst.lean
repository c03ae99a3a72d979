/-
  scan.Const computes the plain function. Conditions: those that each theorem names.
-/
import Derived.Test.YtcmeijeddjckjaaDigit2
namespace Go.Proofs.Ytcmeijeddjckjaa
open Go.RowKit
theorem sdigits_n (a : Option Addr) (n cap : Nat) (l : List UInt8) (base : Int) (w : World) (hn : l.length = n) (hb : HasB w a l) (hl : l.length ≤ 4611686018427387904) :
    Calls Try.prog 12 #[.slice a n cap, .int .i64 base] w fun e w' => e = .returned (.tuple #[.int .i64 (digN base l), .int .i64 (digK base l), .bool (digO base l)]) ∧ w = w' := by
  subst hn; exact sdigits_any a cap l base w hb hl
theorem rdigits_n (a : Option Addr) (n cap : Nat) (l : List UInt8) (base : Int) (w : World) (hn : l.length = n) (hb : HasB w a l) (hl : l.length ≤ 4611686018427387904) :
    Calls Try.prog 13 #[.slice a n cap, .int .i64 base] w fun e w' => e = .returned (.tuple #[.int .i64 (digN base l), .int .i64 (digK base l), .bool (digO base l)]) ∧ w = w' := by
  subst hn; exact rdigits_any a cap l base w hb hl
theorem HasB.drop {w : World} {b off k : Nat} {l : List UInt8} (hlt : b < w.heap.size) (h : ∀ i (h : i < l.length), w.cell? ⟨b, off + i, none⟩ = some (.int .u8 (iv l[i]))) : HasB w (some ⟨b, off + k, none⟩) (l.drop k) :=
  .inr ⟨b, off + k, rfl, hlt, fun i hi => by
    have := h (k + i) (by simp at hi; omega)
    rw [Nat.add_assoc]; simpa using this⟩
theorem HasB.nil (w : World) (a : Option Addr) {l : List UInt8} (h : l = []) : HasB w a l := .inl h
theorem getD_lt {l : List UInt8} {k : Nat} (h : k < l.length) : l.getD k 0 = l[k] := by simp [h]

set_option maxHeartbeats 1000000 in
theorem const_any (a : Option Addr) (cap : Nat) (l : List UInt8) (w : World) (hb : HasB w a l) (hl : l.length ≤ 4611686018427387904) (hcap : l.length ≤ cap) :
    Calls Try.prog 14 #[.slice a l.length cap] w fun e w' => e = .returned (.tuple #[.int .i64 (cst l).1, .int .i64 (cst l).2.1, .bool (cst l).2.2]) ∧ w = w' := by
  by_cases h0 : l = []
  · have E := Lib.hid (show cst l = (0, 0, false) by simp [cst, h0])
    subst h0
    have hz : ((0 : Int) == 0) = true := rfl
    go_enter Try.func14, Try.ntmps14
    go_wp2
    go_ret3
    rw [E.out]; exact ⟨rfl, rfl⟩
  · have hlen : 0 < l.length := List.length_pos_iff.2 h0
    obtain ⟨b, off, rfl, hbs, hc⟩ := hb.at hlen
    have hc0 : w.cell? ⟨b, off, none⟩ = some (.int .u8 (iv (l.getD 0 0))) := by rw [getD_lt hlen]; exact hc 0 hlen
    have hc1 : 1 < l.length → w.cell? ⟨b, off + 1, none⟩ = some (.int .u8 (iv (l.getD 1 0))) := fun h => by rw [getD_lt h]; exact hc 1 h
    have hx0 := iv_lo (l.getD 0 0)
    have hx1 := iv_lo (l.getD 1 0)
    have hy0 := iv_hi (l.getD 0 0)
    have hy1 := iv_hi (l.getD 1 0)
    have C12 := Lib.hid (fun base => sdigits_any (some ⟨b, off, none⟩) cap l base w hb hl)
    have HC := Lib.hid hc
    have hne : ((l.length : Int) == 0) = false := by simp; omega
    have hp : (0 : Int) < (l.length : Int) := by omega
    clear hc hb
    by_cases h1 : iv (l.getD 0 0) < 48 ∨ 57 < iv (l.getD 0 0)
    · have E := Lib.hid (show cst l = (0, 0, false) by unfold cst; rw [if_neg h0, if_pos h1])
      generalize iv (l.getD 0 0) = x at *
      rcases h1 with h1 | h1
      all_goals
        go_enter Try.func14, Try.ntmps14
        go_wp2
        go_ret3
        rw [E.out]; exact ⟨rfl, rfl⟩
    · by_cases h2 : iv (l.getD 0 0) = 48
      · have H2 := Lib.hid h2
        clear h1
        have hD : cap = 2 → l.drop 2 = [] := fun h => by rw [List.drop_eq_nil_iff]; omega
        have Hcap := Lib.hid (HasB.drop (k := 2) hbs HC.out)
        have HD2 := Lib.hid hD
        rw [h2] at hc0; clear hx0 hy0 hD h2
        by_cases h3 : 1 < l.length ∧ (iv (l.getD 1 0) = 120 ∨ iv (l.getD 1 0) = 88)
        · obtain ⟨h3, h4⟩ := h3
          have hc1' := hc1 h3
          have C16 := Lib.hid (fun (a : Option Addr) (n c : Nat) (hn : (l.drop 2).length = n) (h : HasB w a (l.drop 2)) => sdigits_n a n c (l.drop 2) 16 w hn h (by simp; omega))
          have C8 := Lib.hid (C12.out 8)
          have E1 := Lib.hid (show 0 < digK 16 (l.drop 2) → cst l = (digN 16 (l.drop 2), (digK 16 (l.drop 2) : Int) + 2, digO 16 (l.drop 2)) by
            intro h; unfold cst; rw [if_neg h0, if_neg (by rw [H2.out]; omega), if_neg (by rw [H2.out]; omega), if_pos]; simp only [hexed, h3, h, decide_true, Bool.and_true, Bool.true_and]; simpa using h4)
          have E2 := Lib.hid (show ¬ 0 < digK 16 (l.drop 2) → cst l = d3 8 l by
            intro h; unfold cst; rw [if_neg h0, if_neg (by rw [H2.out]; omega), if_neg (by rw [H2.out]; omega), if_neg]; simp only [hexed, h, decide_false, Bool.and_false]; simp)
          have hk : digK 16 (l.drop 2) ≤ l.length := by have := digK_le 16 (l.drop 2); simp at this; omega
          generalize digK 16 (l.drop 2) = kk at *
          clear C12 H2 hc1 h0
          generalize iv (l.getD 1 0) = x at *
          have h3' : (1 : Int) < (l.length : Int) := by omega
          by_cases h5 : cap = 2
          · subst h5
            have h6 : l.length = 2 := by omega
            have HE := Lib.hid (HasB.nil w (some ⟨b, off, none⟩) (HD2.out rfl))
            have HL := Lib.hid (show (l.drop 2).length = 0 by rw [HD2.out rfl]; rfl)
            clear h6
            rcases h4 with rfl | rfl
            all_goals
              by_cases h7 : 0 < kk
              · have E := Lib.hid (E1.out h7)
                go_enter Try.func14, Try.ntmps14
                go_wp2_with fail
                refine (C16.out _ _ _ HL.out HE.out).mono ?_; rintro e w' ⟨rfl, rfl⟩
                go_wp2_with fail
                go_ret3
                rw [E.out]; exact ⟨rfl, rfl⟩
              · have E := Lib.hid (E2.out h7)
                go_enter Try.func14, Try.ntmps14
                go_wp2_with fail
                refine (C16.out _ _ _ HL.out HE.out).mono ?_; rintro e w' ⟨rfl, rfl⟩
                go_wp2_with fail
                refine C8.out.mono ?_; rintro e w' ⟨rfl, rfl⟩
                go_wp2_with fail
                go_ret3
                rw [E.out]; exact ⟨rfl, rfl⟩
          · have HL := Lib.hid (show (l.drop 2).length = l.length - 2 by simp)
            rcases h4 with rfl | rfl
            all_goals
              by_cases h7 : 0 < kk
              · have E := Lib.hid (E1.out h7)
                go_enter Try.func14, Try.ntmps14
                go_wp2_with fail
                refine (C16.out _ _ _ HL.out Hcap.out).mono ?_; rintro e w' ⟨rfl, rfl⟩
                go_wp2_with fail
                go_ret3
                rw [E.out]; exact ⟨rfl, rfl⟩
              · have E := Lib.hid (E2.out h7)
                go_enter Try.func14, Try.ntmps14
                go_wp2_with fail
                refine (C16.out _ _ _ HL.out Hcap.out).mono ?_; rintro e w' ⟨rfl, rfl⟩
                go_wp2_with fail
                refine C8.out.mono ?_; rintro e w' ⟨rfl, rfl⟩
                go_wp2_with fail
                go_ret3
                rw [E.out]; exact ⟨rfl, rfl⟩
        · have C8 := Lib.hid (C12.out 8)
          have E := Lib.hid (show cst l = d3 8 l by
            unfold cst; rw [if_neg h0, if_neg (by rw [H2.out]; omega), if_neg (by rw [H2.out]; omega), if_neg]
            intro h; simp only [hexed, Bool.and_eq_true, decide_eq_true_eq, Bool.or_eq_true, beq_iff_eq] at h; exact h3 h.1)
          clear C12 H2 h0
          generalize iv (l.getD 1 0) = x at *
          by_cases h4 : 1 < l.length
          · have hc1' := hc1 h4
            have h5 : (x == 120) = false := by simp; exact fun h => h3 ⟨h4, .inl h⟩
            have h6 : (x == 88) = false := by simp; exact fun h => h3 ⟨h4, .inr h⟩
            have h3' : (1 : Int) < (l.length : Int) := by omega
            clear h3
            go_enter Try.func14, Try.ntmps14
            go_wp2_with fail
            refine C8.out.mono ?_; rintro e w' ⟨rfl, rfl⟩
            go_wp2_with fail
            go_ret3
            rw [E.out]; exact ⟨rfl, rfl⟩
          · clear h3
            have h3' : ¬ (1 : Int) < (l.length : Int) := by omega
            go_enter Try.func14, Try.ntmps14
            go_wp2_with fail
            refine C8.out.mono ?_; rintro e w' ⟨rfl, rfl⟩
            go_wp2_with fail
            go_ret3
            rw [E.out]; exact ⟨rfl, rfl⟩
      · have E := Lib.hid (show cst l = d3 10 l by unfold cst; rw [if_neg h0, if_neg h1, if_pos h2])
        generalize iv (l.getD 0 0) = x at *
        have g1 : 48 ≤ x := by omega
        have g2 : x ≤ 57 := by omega
        clear h1
        have C := Lib.hid (C12.out 10)
        go_enter Try.func14, Try.ntmps14
        go_wp2_with (go_at_call 12; refine C.out.mono ?_; rintro e w' ⟨rfl, rfl⟩)
        go_ret3
        rw [E.out]; exact ⟨rfl, rfl⟩
end Go.Proofs.Ytcmeijeddjckjaa
