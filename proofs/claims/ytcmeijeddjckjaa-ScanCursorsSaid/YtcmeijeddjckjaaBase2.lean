/-
  pidginref2.Base computes the plain function. Conditions: those that each theorem names.
-/
import Derived.Test.YtcmeijeddjckjaaBase
import Derived.Deep.QuietTactic
import Derived.BigQuiet
namespace Go.Proofs.Ytcmeijeddjckjaa
open Go.RowKit
theorem run_slice_table (up : Bool) (d : Int) (h0 : 0 ≤ d) (h1 : d < 16) (w : World) : (Instr.slice 9 (.string (table up)) (some (.int .u64 d)) (some (.int .u64 (d + 1))) none).run Try.prog w = .ok (.string ⟨#[toB (dch up d)]⟩) w := by
  obtain ⟨k, rfl⟩ := Int.eq_ofNat_of_zero_le h0
  have hk : k < 16 := by omega
  have hs : (table up).size = 16 := by cases up <;> rfl
  have he : (table up).extract k (k + 1) = ⟨#[toB (dch up k)]⟩ := by
    cases up
    · exact (by decide +kernel : ∀ k, k < 16 → (table false).extract k (k + 1) = ⟨#[toB (dch false (k : Int))]⟩) k hk
    · exact (by decide +kernel : ∀ k, k < 16 → (table true).extract k (k + 1) = ⟨#[toB (dch true (k : Int))]⟩) k hk
  have hu := Try.underlying9
  have hk1 : ((k : Int) + 1).toNat = k + 1 := by omega
  have h2 := run_slice_string (P := Try.prog) w 9 (table up) .u64 .u64 (k : Int) ((k : Int) + 1) hu (by omega) (by omega) (by rw [hs]; omega)
  rw [h2, hk1, Int.toNat_natCast, he]
theorem bapp (c : UInt8) (acc : List UInt8) : (⟨#[c]⟩ : ByteArray) ++ (⟨acc.toArray⟩ : ByteArray) = ⟨(c :: acc).toArray⟩ := by
  apply ByteArray.ext
  rw [ByteArray.data_append]
  simp
set_option maxRecDepth 100000 in
set_option maxHeartbeats 1000000 in
theorem rbase_any (n base : Int) (up : Bool) (w : World) (h0 : 0 ≤ n) (h1 : n ≤ 18446744073709551615) (hb : 2 ≤ base) (hb2 : base ≤ 16):
    Calls Try.prog 22 #[.int .u64 n, .int .i64 base, .bool up] w fun e w' => e = .returned (.string ⟨(bs up base n).toArray⟩) ∧ Below w.heap.size w w' := by
  have HX := Lib.hid (fun d h0 h1 w => run_slice_table up d h0 h1 w)
  have HR := Lib.hid (show bacc up base 64 n [] = bs up base n from rfl)
  generalize bs up base n = res at *
  obtain ⟨up', hup⟩ : ∃ u, up = u := ⟨_, rfl⟩
  have HU := Lib.hid hup
  rw [hup]; clear hup
  have HT := Lib.hid (show table up = if up' then ⟨#[48, 49, 50, 51, 52, 53, 54, 55, 56, 57, 65, 66, 67, 68, 69, 70]⟩ else ⟨#[48, 49, 50, 51, 52, 53, 54, 55, 56, 57, 97, 98, 99, 100, 101, 102]⟩ from by rw [HU.out]; rfl)
  have hd0 : 0 ≤ n % base := Int.emod_nonneg _ (by omega)
  have hd1 : n % base < base := Int.emod_lt_of_pos _ (by omega)
  have hw1 : IntKind.u64.wrap (n % base + 1) = n % base + 1 := IntWalk.u64_in _ (by omega)
  have hw2 : IntKind.u64.wrap (n % base) = n % base := IntWalk.u64_in _ (by omega)
  have hw3 : IntKind.u64.wrap base = base := IntWalk.u64_in _ (by omega)
  have hw4 : n.tmod base = n % base := Int.tmod_eq_emod_of_nonneg h0
  have hix := HX.out (n % base) hd0 (by omega)
  rw [HT.out] at hix
  cases up'
  all_goals
    simp only [Bool.false_eq_true, if_false, if_true] at hix
    go_enter Try.func22, Try.ntmps22
    go_wp2
    go_quiet (fail)
    go_wp2
    clear hix hw1 hw2 hw4 hd0 hd1
    have HS : Hid ((n / base = 0 → [toB (dch up (n % base))] = res) ∧ (¬ n / base = 0 → bacc up base 63 (n / base) [toB (dch up (n % base))] = res)) := ⟨fun h => (bacc_last (up := up) (f := 63) (acc := []) h).symm.trans HR.out, fun h => (bacc_more (up := up) (f := 63) (acc := []) h).symm.trans HR.out⟩
    have hh : n / base < 2 ^ 63 := half hb h0 (by omega)
    have hq0 : 0 ≤ n / base := Int.ediv_nonneg h0 (by omega)
    have hbel : Below w.heap.size w (w.drewN nq) := below_drewN (Below.refl _ _) nq
    generalize w.drewN nq = w1 at *
    clear HR
    go_loop [0, 8] (fun n s => ∃ (f : Nat) (m : Int) (acc : List UInt8), n = .int .u64 m ∧ s = .string ⟨acc.toArray⟩ ∧ 0 ≤ m ∧ m < 2 ^ f ∧ m ≤ 9223372036854775807 ∧ acc.length + f = 64 ∧ Hid ((m = 0 → acc = res) ∧ (¬ m = 0 → bacc up base f m acc = res))) (fun n _ => (intOf n).toNat)
    case atStart => exact ⟨63, n / base, _, rfl, rfl, hq0, hh, by omega, rfl, HS⟩
    case round =>
      clear HS hh hq0
      obtain ⟨f, m, acc, rfl, rfl, hm0, hm1, hm2, hal, HB⟩ := hrel
      by_cases hz : 0 < m
      · have hf := some_room hz hm1
        obtain ⟨g, rfl⟩ : ∃ g, f = g + 1 := ⟨f - 1, by omega⟩
        have hd0 : 0 ≤ m % base := Int.emod_nonneg _ (by omega)
        have hd1 : m % base < base := Int.emod_lt_of_pos _ (by omega)
        have hix := HX.out (m % base) hd0 (by omega)
        rw [HT.out] at hix
        simp only [Bool.false_eq_true, if_false, if_true] at hix
        have hq0 : 0 ≤ m / base := Int.ediv_nonneg hm0 (by omega)
        have hh := half hb hm0 hm1
        have hq2 : m / base ≤ m := Int.ediv_le_self base hm0
        have hq3 : m / base < m := Int.ediv_lt_self_of_pos_of_ne_one hz (by omega)
        have HS : Hid ((m / base = 0 → toB (dch up (m % base)) :: acc = res) ∧ (¬ m / base = 0 → bacc up base g (m / base) (toB (dch up (m % base)) :: acc) = res)) := ⟨fun h => (bacc_last h).symm.trans (HB.out.2 (by omega)), fun h => (bacc_more h).symm.trans (HB.out.2 (by omega))⟩
        have hal2 : acc.length ≤ 64 := by omega
        clear HB
        go_wp2_with fail
        go_round
        case rel => exact ⟨g, m / base, _, rfl, congrArg Value.string (bapp _ _), hq0, hh, by omega, by simp; omega, HS⟩
        case measure => simp [intOf]; omega
      · have HE := Lib.hid (HB.out.1 (by omega))
        clear HB
        go_wp2_with fail
        go_ret
        rw [← HE.out]
        exact ⟨rfl, hbel⟩
end Go.Proofs.Ytcmeijeddjckjaa
