/-
  scan.digit, pidginref2.value and scan.Digits compute the plain functions. Conditions: those that each theorem names.
-/
import Derived.Test.YtcmeijeddjckjaaRows
import Derived.Test.YtcmeijeddjckjaaPlain
import Derived.WalkKit
import Derived.WalkSpells
import Derived.WalkLawsBesides
import Derived.Lib.Hide
namespace Go.Proofs.Ytcmeijeddjckjaa
open Go.RowKit
theorem ret_int {k : IntKind} {a b : Int} (h : a = b) : Ending.returned (.int k a) = .returned (.int k b) := by rw [h]
theorem ret_bool {a b : Bool} (h : a = b) : Ending.returned (.bool a) = .returned (.bool b) := by rw [h]
/-- A slice's address over bytes: empty, or the bytes' cells lie there. -/
def HasB (w : World) (a : Option Addr) (l : List UInt8) : Prop :=
  l = [] ∨ ∃ b off, a = some ⟨b, off, none⟩ ∧ b < w.heap.size ∧ ∀ i (h : i < l.length), w.cell? ⟨b, off + i, none⟩ = some (.int .u8 (iv l[i]))
theorem HasB.at {w : World} {a : Option Addr} {l : List UInt8} (h : HasB w a l) {k : Nat} (hk : k < l.length) :
    ∃ b off, a = some ⟨b, off, none⟩ ∧ b < w.heap.size ∧ ∀ i (h : i < l.length), w.cell? ⟨b, off + i, none⟩ = some (.int .u8 (iv l[i])) := by
  rcases h with rfl | h
  · simp at hk
  · exact h
theorem HasB.below {w w' : World} {a : Option Addr} {l : List UInt8} (h : HasB w a l) (hb : Below w.heap.size w w') : HasB w' a l := by
  rcases h with h | ⟨b, off, ha, hlt, hc⟩
  · exact .inl h
  · exact .inr ⟨b, off, ha, Nat.lt_of_lt_of_le hlt hb.size, fun i hi => (hb.cell (p := ⟨b, off + i, none⟩) hlt).trans (hc i hi)⟩

set_option maxHeartbeats 400000 in
theorem digit_any (x : Int) (w : World) (h0 : 0 ≤ x) (h1 : x ≤ 255) :
    Calls Try.prog 36 #[.int .u8 x] w fun e w' => e = .returned (.int .i64 (dgv 16 x)) ∧ w = w' := by
  go_enter Try.func36, Try.ntmps36
  go_wp2
  all_goals
    go_ret
    refine ⟨ret_int ?_, rfl⟩
    unfold dgv; split <;> (try split) <;> (try split) <;> omega

set_option maxHeartbeats 400000 in
theorem value_any (x : Int) (w : World) (h0 : 0 ≤ x) (h1 : x ≤ 255) :
    Calls Try.prog 37 #[.int .u8 x] w fun e w' => e = .returned (.int .i64 (dgv 99 x)) ∧ w = w' := by
  go_enter Try.func37, Try.ntmps37
  go_wp2
  all_goals
    go_ret
    refine ⟨ret_int ?_, rfl⟩
    unfold dgv; split <;> (try split) <;> (try split) <;> omega

set_option maxHeartbeats 1000000 in
theorem sdigits_any (a : Option Addr) (cap : Nat) (l : List UInt8) (base : Int) (w : World) (hb : HasB w a l) (hl : l.length ≤ 4611686018427387904) :
    Calls Try.prog 12 #[.slice a l.length cap, .int .i64 base] w fun e w' => e = .returned (.tuple #[.int .i64 (digN base l), .int .i64 (digK base l), .bool (digO base l)]) ∧ w = w' := by
  by_cases hbase : 2 ≤ base ∧ base ≤ 16
  · obtain ⟨hb2, hb16⟩ := hbase
    have Hok := Lib.hid (show okb base = true by simp [okb, hb2, hb16])
    go_enter Try.func12, Try.ntmps12
    go_wp2
    go_loop [7, 8, 9] (fun n k o => ∃ j : Nat, j ≤ l.length ∧ (∀ i (hi : i < l.length), i < j → isd base l[i] = true) ∧ n = .int .i64 (st base (l.take j)).1 ∧ k = .int .i64 j ∧ o = .bool (st base (l.take j)).2) (fun _ k _ => l.length - (intOf k).toNat)
    case atStart => exact ⟨0, by omega, by omega, by simp [st], rfl, by simp [st]⟩
    case round =>
      obtain ⟨j, hj, hall, rfl, rfl, rfl⟩ := hrel
      have HA := Lib.hid hall; clear hall
      by_cases hlt : j < l.length
      · obtain ⟨b, off, rfl, hbs, hc⟩ := hb.at hlt
        have hcj := hc j hlt
        clear hc hb
        have hx0 := iv_lo l[j]
        have hx1 := iv_hi l[j]
        have HT := Lib.hid (take_snoc l j hlt)
        have HS := Lib.hid (st_snoc base (l.take j) l[j])
        have hbd := st_bd base hb2 (l.take j)
        have HO := Lib.hid (fun he => dig_out Hok.out hj HA.out he)
        have HD := Lib.hid (show isd base l[j] = decide (dgv 16 (iv l[j]) < base) from rfl)
        generalize st base (l.take j) = s at *
        generalize hx : iv l[j] = x at *
        have HX := Lib.hid hx; clear hx
        have hd := dgv_lo x
        have CD := Lib.hid (fun w => digit_any x w hx0 hx1)
        generalize dgv 16 x = d at *
        obtain ⟨n, o⟩ := s
        unfold big at hbd
        simp only at hbd
        go_wp2_with (go_at_call 36; refine (CD.out _).mono ?_; rintro e w' ⟨rfl, rfl⟩)
        · have hdb : d < base := by assumption
          have ho : o = true := by assumption
          go_round
          case rel => exact ⟨j + 1, by omega, all_snoc HA.out hlt (by rw [HD.out]; simpa using hdb), by rw [HT.out, HS.out, stp_over (.inl ho)]; rfl, by go_num, by rw [HT.out, HS.out, stp_over (.inl ho)]⟩
          case measure => simp [intOf]; omega
        · have hdb : d < base := by assumption
          have ho : (9223372036854775807 - d) / base < n := by assumption
          go_round
          case rel => exact ⟨j + 1, by omega, all_snoc HA.out hlt (by rw [HD.out]; simpa using hdb), by rw [HT.out, HS.out, stp_over (.inr ho)]; rfl, by go_num, by rw [HT.out, HS.out, stp_over (.inr ho)]⟩
          case measure => simp [intOf]; omega
        · have hdb : d < base := by assumption
          have ho : ¬ o = true := by assumption
          have hn : n ≤ (9223372036854775807 - d) / base := by assumption
          have hm := stp_room hb2 hbd.1 hd.1 hn
          go_round
          case rel => exact ⟨j + 1, by omega, all_snoc HA.out hlt (by rw [HD.out]; simpa using hdb), by rw [HT.out, HS.out, stp_in ho hn, IntWalk.wrap64_in (n * base) (by omega), IntWalk.wrap64_in _ (by omega)], by go_num, by rw [HT.out, HS.out, stp_in ho hn]⟩
          case measure => simp [intOf]; omega
        · have hdb : base ≤ d := by assumption
          go_ret3
          have := HO.out (fun _ => by rw [HD.out]; simpa using hdb)
          rw [this.1, this.2.1, this.2.2]
          exact ⟨rfl, rfl⟩
      · go_wp2
        go_ret3
        have := dig_out Hok.out hj HA.out (fun h => absurd h hlt)
        rw [this.1, this.2.1, this.2.2]
        exact ⟨rfl, rfl⟩
  · have HB := Lib.hid (dig_bad (base := base) (show okb base = false by simp [okb]; omega) l)
    rcases (show base < 2 ∨ 16 < base by omega) with h | h
    all_goals
      go_enter Try.func12, Try.ntmps12
      go_wp2
      go_ret3
      rw [HB.out.1, HB.out.2.1, HB.out.2.2]
      exact ⟨rfl, rfl⟩
end Go.Proofs.Ytcmeijeddjckjaa
