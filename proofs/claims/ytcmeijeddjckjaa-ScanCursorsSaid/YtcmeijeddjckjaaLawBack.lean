/-
  The walk of the law ScanBack. Conditions: those that each theorem names.
-/
import Derived.Test.YtcmeijeddjckjaaText
import Derived.Test.YtcmeijeddjckjaaPlain4
namespace Go.Proofs.Ytcmeijeddjckjaa
open Go.RowKit
theorem bl_mk (l : List UInt8) : bl ⟨l.toArray⟩ = l := by simp [bl]
theorem sz_mk (l : List UInt8) : (⟨l.toArray⟩ : ByteArray).size = l.length := by simp [ByteArray.size]
theorem txt_len (n : Int) : (txt n).length ≤ 65 := by
  unfold txt; split
  · have := bs_len false 10 (-n); simp; omega
  · have := bs_len false 10 n; omega
theorem whole_of (l : List UInt8) (w : World) (hs : l.length ≤ 140737488351232) :
    Calls Try.prog 23 #[.string ⟨l.toArray⟩] w fun e w' => e = .returned (.tuple #[.int .i64 (whole l).1, .bool (whole l).2]) ∧ Below w.heap.size w w' := by
  have := whole_any ⟨l.toArray⟩ w (by rw [sz_mk]; exact hs)
  rwa [bl_mk] at this
theorem conv_has' (w : World) (l : List UInt8) (c : Nat) (fz : Nat × Nat) : HasB (w.alloc (.cells (bytesRow ⟨l.toArray⟩ c) 5 fz)) (some ⟨w.heap.size, 0, none⟩) l := by
  have := conv_has w ⟨l.toArray⟩ c fz
  rwa [bl_mk] at this
set_option maxHeartbeats 1000000 in
theorem ScanBack_walk (n base : Int) (up : Bool) (w : World) (hn : -9223372036854775808 ≤ n ∧ n ≤ 9223372036854775807) (_hb : -9223372036854775808 ≤ base ∧ base ≤ 9223372036854775807) :
    Calls Try.prog 10 #[.int .i64 n, .int .i64 base, .bool up] w fun e w' => e = .returned (.bool true) ∧ Below w.heap.size w w' := by
  have h1 := Lib.hid (fun w => text_any n w hn.1 hn.2)
  have h2 := Lib.hid (fun w => whole_of (txt n) w (by have := txt_len n; omega))
  rw [whole_txt hn.1 hn.2] at h2
  generalize txt n = t at *
  by_cases hbase : 2 ≤ base ∧ base ≤ 16
  · obtain ⟨hb1, hb2⟩ := hbase
    obtain ⟨u, hu⟩ : ∃ u, IntKind.u64.wrap n = u := ⟨_, rfl⟩
    have hu2 : 0 ≤ u ∧ u ≤ 18446744073709551615 ∧ (n < 0 → 9223372036854775807 < u) ∧ (0 ≤ n → u = n) := by
      rw [IntKind.wrap_u64] at hu; omega
    obtain ⟨d1, d2, d3⟩ := bs_digits (up := up) hb1 hb2 hu2.1 hu2.2.1
    have hd := dig_all hb1 hb2 d2
    rw [d3] at hd
    have h3 := Lib.hid (fun w => base_any u base up w hu2.1 hu2.2.1 hb1 hb2)
    have hl := bs_len up base u
    have h4 := Lib.hid (fun a cap w hb => sdigits_any a cap (bs up base u) base w hb (by omega))
    have hK := hd.1
    have HD := Lib.hid hd.2
    generalize bs up base u = s at *
    rw [hK] at h4
    generalize digN base s = dn at *
    generalize digO base s = dov at *
    have HP := Lib.hid hu2.2.2
    have kc := fun (w : World) (s : ByteArray) => run_bytes_of_string (P := Try.prog) w 9 22 5 s Try.underlying9 Try.underlying22 Try.underlying5
    clear hd hK d1 d2 d3 hu2
    have hrest : (¬ n < 0 → u = n ∧ dn = n ∧ dov = false) ∧ (n < 0 → dov = true) := by
      refine ⟨fun h => ?_, fun h => HD.out.2 (by have := HP.out.1 h; unfold big; omega)⟩
      have e := HP.out.2 (by omega)
      have := HD.out.1 (by unfold big; omega)
      exact ⟨e, this.1.trans e, this.2⟩
    clear HD HP
    by_cases hneg : n < 0
    · obtain rfl := hrest.2 hneg
      clear hrest
      go_enter Try.func10, Try.ntmps10
      go_wp2_with fail
      refine (h1.out _).mono ?_; rintro e w1 ⟨rfl, hw1⟩
      go_wp2_with fail
      refine (h2.out _).mono ?_; rintro e w2 ⟨rfl, hw2⟩
      go_wp2_with fail
      refine (awake_any _).mono ?_; rintro e w3 ⟨rfl, hw3⟩
      go_wp2_with fail
      refine (h3.out _).mono ?_; rintro e w4 ⟨rfl, hw4⟩
      go_wp2_with fail
      refine (h4.out _ _ _ ((conv_has' w4 s _ _).below (Below.refl _ _).drew)).mono ?_; rintro e w5 ⟨rfl, rfl⟩
      go_wp2_with fail
      go_ret
      exact ⟨rfl, below_go (below_go (below_go (below_go hw1 hw2) hw3) hw4) ((Below.refl _ _).alloc (Nat.le_refl _) _).drew⟩
    · obtain ⟨hun, hdn, rfl⟩ := hrest.1 hneg
      have hneg' := Int.not_lt.1 hneg
      clear hrest hneg
      subst hun
      subst hdn
      have hee : (dn == dn) = true := by simp
      have hnd : decide (dn < 0) = false := by simp; omega
      go_enter Try.func10, Try.ntmps10
      go_wp2_with fail
      refine (h1.out _).mono ?_; rintro e w1 ⟨rfl, hw1⟩
      go_wp2_with fail
      refine (h2.out _).mono ?_; rintro e w2 ⟨rfl, hw2⟩
      go_wp2_with fail
      refine (awake_any _).mono ?_; rintro e w3 ⟨rfl, hw3⟩
      go_wp2_with fail
      refine (h3.out _).mono ?_; rintro e w4 ⟨rfl, hw4⟩
      go_wp2_with fail
      refine (h4.out _ _ _ ((conv_has' w4 s _ _).below (Below.refl _ _).drew)).mono ?_; rintro e w5 ⟨rfl, rfl⟩
      go_wp2_with fail
      go_ret
      exact ⟨rfl, below_go (below_go (below_go (below_go hw1 hw2) hw3) hw4) ((Below.refl _ _).alloc (Nat.le_refl _) _).drew⟩
  · have h3 := Lib.hid (fun u w h0 h1 => baseA_any u base up w h0 h1)
    obtain ⟨u, hu⟩ : ∃ u, IntKind.u64.wrap n = u := ⟨_, rfl⟩
    have hu2 : 0 ≤ u ∧ u ≤ 18446744073709551615 := by
      rw [IntKind.wrap_u64] at hu; omega
    have C := Lib.hid (fun w => baseA_any u base up w hu2.1 hu2.2)
    have E := Lib.hid (show bsA up base u = [] by simp only [bsA, okb, hbase]; rfl)
    have hee : (n == n) = true := by simp
    generalize bsA up base u = s at *
    have hs := E.out
    subst hs
    rcases (show base < 2 ∨ 16 < base by omega) with h | h
    all_goals
      clear hbase
      go_enter Try.func10, Try.ntmps10
      go_wp2_with fail
      refine (h1.out _).mono ?_; rintro e w1 ⟨rfl, hw1⟩
      go_wp2_with fail
      refine (h2.out _).mono ?_; rintro e w2 ⟨rfl, hw2⟩
      go_wp2_with fail
      refine (awake_any _).mono ?_; rintro e w3 ⟨rfl, hw3⟩
      go_wp2_with fail
      refine (C.out _).mono ?_; rintro e w4 ⟨rfl, hw4⟩
      go_wp2_with fail
      go_ret
      exact ⟨rfl, below_go (below_go (below_go hw1 hw2) hw3) hw4⟩
end Go.Proofs.Ytcmeijeddjckjaa
