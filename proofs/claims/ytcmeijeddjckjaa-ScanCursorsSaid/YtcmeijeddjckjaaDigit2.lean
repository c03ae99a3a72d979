/-
  pidginref2.Digits computes the plain function. Conditions: those that each theorem names.
-/
import Derived.Test.YtcmeijeddjckjaaDigit
namespace Go.Proofs.Ytcmeijeddjckjaa
open Go.RowKit
set_option maxHeartbeats 1000000 in
theorem rdigits_any (a : Option Addr) (cap : Nat) (l : List UInt8) (base : Int) (w : World) (hb : HasB w a l) (hl : l.length ≤ 4611686018427387904) :
    Calls Try.prog 13 #[.slice a l.length cap, .int .i64 base] w fun e w' => e = .returned (.tuple #[.int .i64 (digN base l), .int .i64 (digK base l), .bool (digO base l)]) ∧ w = w' := by
  by_cases hbase : 2 ≤ base ∧ base ≤ 16
  · obtain ⟨hb2, hb16⟩ := hbase
    have Hok := Lib.hid (show okb base = true by simp [okb, hb2, hb16])
    go_enter Try.func13, Try.ntmps13
    go_wp2
    go_loop [7, 8, 9, 21] (fun n o u k => ∃ j : Nat, ∃ m : Int, j ≤ l.length ∧ (∀ i (hi : i < l.length), i < j → isd base l[i] = true) ∧ n = .int .u64 m ∧ 0 ≤ m ∧ m ≤ 9223372036854775807 ∧ ((st base (l.take j)).2 = false → m = (st base (l.take j)).1) ∧ ((st base (l.take j)).2 = true → (st base (l.take j)).1 = big) ∧ k = .int .i64 j ∧ u = .int .i64 j ∧ o = .bool (st base (l.take j)).2) (fun _ _ _ k => l.length - (intOf k).toNat)
    case atStart => exact ⟨0, 0, by omega, by omega, by simp, by omega, by omega, by simp [st], by simp [st], rfl, rfl, by simp [st]⟩
    case round =>
      obtain ⟨j, m, hj, hall, rfl, hm0, hm1, hmf, hmt, rfl, rfl, rfl⟩ := hrel
      have HA := Lib.hid hall; clear hall
      have HO := Lib.hid (fun he => dig_out Hok.out hj HA.out he)
      by_cases hlt : j < l.length
      · obtain ⟨b, off, rfl, hbs, hc⟩ := hb.at hlt
        have hcj := hc j hlt
        clear hc hb
        have hx0 := iv_lo l[j]
        have hx1 := iv_hi l[j]
        have HT := Lib.hid (take_snoc l j hlt)
        have HS := Lib.hid (st_snoc base (l.take j) l[j])
        have HD := Lib.hid (show isd base l[j] = decide (dgv 16 (iv l[j]) < base) from rfl)
        generalize st base (l.take j) = s at *
        generalize hx : iv l[j] = x at *
        clear hx
        have hd := dgv_cases x
        have CD := Lib.hid (fun w => value_any x w hx0 hx1)
        generalize dgv 16 x = d at *
        generalize dgv 99 x = d' at *
        obtain ⟨n, o⟩ := s
        simp only at hmf hmt
        have HF := Lib.hid hmf; clear hmf
        have HG := Lib.hid hmt; clear hmt
        go_wp2_with (go_at_call 37; refine (CD.out _).mono ?_; rintro e w' ⟨rfl, rfl⟩)
        · have hdb : base ≤ d' := by assumption
          have ho : o = true := by assumption
          go_ret3
          have hh := HO.out (fun _ => by rw [HD.out]; simp; omega)
          rw [hh.1, hh.2.1, hh.2.2]
          subst ho
          exact ⟨by rw [HG.out rfl]; rfl, rfl⟩
        · have hdb : base ≤ d' := by assumption
          have ho : o = false := by assumption
          go_ret3
          have hh := HO.out (fun _ => by rw [HD.out]; simp; omega)
          rw [hh.1, hh.2.1, hh.2.2]
          subst ho
          exact ⟨by rw [HF.out rfl]; rfl, rfl⟩
        · have hdb : d' < base := by assumption
          have ho : o = true := by assumption
          go_round
          case rel => exact ⟨j + 1, m, by omega, all_snoc HA.out hlt (by rw [HD.out]; simp; omega), rfl, by omega, by omega, by rw [HT.out, HS.out, stp_over (.inl ho)]; exact (fun h => nomatch h), by rw [HT.out, HS.out, stp_over (.inl ho)]; exact fun _ => rfl, by go_num, by go_num, by rw [HT.out, HS.out, stp_over (.inl ho)]⟩
          case measure => simp [intOf]; omega
        · have hdb : d' < base := by assumption
          have ho' : ¬ o = true := by assumption
          have hmn := HF.out (by simpa using ho')
          subst hmn
          have ed : d' = d := by omega
          subst ed
          have ho : (9223372036854775807 - d') / base < m := by assumption
          go_round
          case rel => exact ⟨j + 1, m, by omega, all_snoc HA.out hlt (by rw [HD.out]; simp; omega), rfl, by omega, by omega, by rw [HT.out, HS.out, stp_over (.inr ho)]; exact (fun h => nomatch h), by rw [HT.out, HS.out, stp_over (.inr ho)]; exact fun _ => rfl, by go_num, by go_num, by rw [HT.out, HS.out, stp_over (.inr ho)]⟩
          case measure => simp [intOf]; omega
        · have hdb : d' < base := by assumption
          have ho' : ¬ o = true := by assumption
          have hmn := HF.out (by simpa using ho')
          subst hmn
          have ed : d' = d := by omega
          subst ed
          have hn : m ≤ (9223372036854775807 - d') / base := by assumption
          have hm := stp_room hb2 hm0 (by omega) hn
          go_round
          case rel => exact ⟨j + 1, m * base + d', by omega, all_snoc HA.out hlt (by rw [HD.out]; simp; omega), by rw [IntWalk.u64_in (m * base) (by omega), IntWalk.u64_in _ (by omega)], by omega, by omega, by rw [HT.out, HS.out, stp_in ho' hn]; exact fun _ => rfl, by rw [HT.out, HS.out, stp_in ho' hn]; exact (fun h => nomatch h), by go_num, by go_num, by rw [HT.out, HS.out, stp_in ho' hn]⟩
          case measure => simp [intOf]; omega
      · generalize st base (l.take j) = s at *
        have HF := Lib.hid hmf; clear hmf
        have HG := Lib.hid hmt; clear hmt
        obtain ⟨n, o⟩ := s
        go_wp2
        · have ho : o = true := by assumption
          go_ret3
          have hh := HO.out (fun h => absurd h hlt)
          rw [hh.1, hh.2.1, hh.2.2]
          subst ho
          have := HG.out rfl
          exact ⟨by rw [this]; rfl, rfl⟩
        · have ho : o = false := by assumption
          go_ret3
          have hh := HO.out (fun h => absurd h hlt)
          rw [hh.1, hh.2.1, hh.2.2]
          subst ho
          have := HF.out rfl
          exact ⟨by rw [this]; rfl, rfl⟩
  · have HB := Lib.hid (dig_bad (base := base) (show okb base = false by simp [okb]; omega) l)
    rcases (show base < 2 ∨ 16 < base by omega) with h | h
    all_goals
      go_enter Try.func13, Try.ntmps13
      go_wp2
      go_ret3
      rw [HB.out.1, HB.out.2.1, HB.out.2.2]
      exact ⟨rfl, rfl⟩
end Go.Proofs.Ytcmeijeddjckjaa
