/-
  Plain facts: noughts ahead of a number, what is no digit behind it, a constant in hexadecimal. Conditions: those that each theorem names.
-/
import Derived.Test.YtcmeijeddjckjaaPlain4
namespace Go.Proofs.Ytcmeijeddjckjaa
open Go.RowKit
theorem front_stop {base : Int} {l : List UInt8} {c : UInt8} {t : List UInt8} (h : l.all (isd base) = true) (hc : isd base c = false) : front base (l ++ c :: t) = l := by
  unfold front
  induction l with
  | nil => simp [hc]
  | cons a r ih =>
    simp only [List.all_cons, Bool.and_eq_true] at h
    rw [List.cons_append, List.takeWhile_cons, if_pos h.1, ih h.2]
theorem dig_front {base : Int} {l m : List UInt8} (h : front base l = m) (hm : m.all (isd base) = true) : digN base l = digN base m ∧ digK base l = digK base m ∧ digO base l = digO base m := by
  simp only [digN, digK, digO, h, front_all hm]
  exact ⟨trivial, trivial, trivial⟩
theorem fval_noughts (base : Int) (k : Nat) (l : List UInt8) : fval base (fun c => dgv 16 (iv c)) (List.replicate k 48 ++ l) = fval base (fun c => dgv 16 (iv c)) l := by
  induction k with
  | zero => simp
  | succ k ih =>
    rw [List.replicate_succ, List.cons_append]
    have h0 : dgv 16 (iv 48) = 0 := rfl
    have : fval base (fun c => dgv 16 (iv c)) (48 :: (List.replicate k 48 ++ l)) = fval base (fun c => dgv 16 (iv c)) (List.replicate k 48 ++ l) := by
      unfold fval; simp only [List.foldl_cons, h0]; rw [Int.zero_mul, Int.add_zero]
    rw [this, ih]
theorem all_noughts {base : Int} (hb : 2 ≤ base) (k : Nat) : (List.replicate k (48 : UInt8)).all (isd base) = true := by
  rw [List.all_eq_true]
  intro x hx
  rw [List.eq_of_mem_replicate hx]
  have h0 : dgv 16 (iv 48) = 0 := rfl
  simp only [isd, h0, decide_eq_true_eq]; omega
/-- noughts, a number's digits, no digit, anything -/
theorem dig_noughts {base : Int} (hb : 2 ≤ base) (hb2 : base ≤ 16) {n : Int} (h0 : 0 ≤ n) (h1 : n ≤ big) (k : Nat) (t : List UInt8) :
    digN base (List.replicate k 48 ++ bs false base n ++ 122 :: t) = n ∧ digK base (List.replicate k 48 ++ bs false base n ++ 122 :: t) = (bs false base n).length + k ∧ digO base (List.replicate k 48 ++ bs false base n ++ 122 :: t) = false := by
  obtain ⟨_, d2, d3⟩ := bs_digits (up := false) hb hb2 h0 (by unfold big at h1; omega)
  have ha : (List.replicate k 48 ++ bs false base n).all (isd base) = true := by rw [List.all_append, all_noughts hb k, d2]; rfl
  have hz : isd base 122 = false := by
    have : dgv 16 (iv 122) = 16 := rfl
    simp only [isd, this, decide_eq_false_iff_not]; omega
  have hf := dig_front (front_stop (t := t) ha hz) ha
  have hd := dig_all hb hb2 ha
  rw [fval_noughts, d3] at hd
  rw [hf.1, hf.2.1, hf.2.2]
  refine ⟨(hd.2.1 h1).1, ?_, (hd.2.1 h1).2⟩
  rw [hd.1]; simp; omega
theorem dig_number {base : Int} (hb : 2 ≤ base) (hb2 : base ≤ 16) {n : Int} (h0 : 0 ≤ n) (h1 : n ≤ big) :
    digN base (bs false base n) = n ∧ digK base (bs false base n) = (bs false base n).length ∧ digO base (bs false base n) = false := by
  obtain ⟨_, d2, d3⟩ := bs_digits (up := false) hb hb2 h0 (by unfold big at h1; omega)
  have hd := dig_all hb hb2 d2
  rw [d3] at hd
  exact ⟨(hd.2.1 h1).1, hd.1, (hd.2.1 h1).2⟩
theorem bacc_same (u v : Bool) (base : Int) (f : Nat) : ∀ (n : Int) (a b : List UInt8), a.length = b.length → (bacc u base f n a).length = (bacc v base f n b).length := by
  induction f with
  | zero => intro n a b h; simpa [bacc] using h
  | succ f ih =>
    intro n a b h
    unfold bacc
    split
    · simp [h]
    · exact ih _ _ _ (by simp [h])
theorem bs_same (u v : Bool) (base n : Int) : (bs u base n).length = (bs v base n).length := bacc_same u v base 64 n [] [] rfl
theorem cst_hex {n : Int} (h0 : 0 ≤ n) (h1 : n ≤ big) : cst (48 :: 120 :: (bs true 16 n ++ [33])) = (n, ((bs false 16 n).length : Int) + 2, false) := by
  obtain ⟨d1, d2, d3⟩ := bs_digits (up := true) (base := 16) (by omega) (by omega) h0 (by unfold big at h1; omega)
  have hf := dig_front (front_stop (c := 33) (t := []) d2 rfl) d2
  have hd := dig_all (by omega) (by omega) d2
  rw [d3] at hd
  have hx0 : iv 48 = 48 := rfl
  have hx1 : iv 120 = 120 := rfl
  have hk : digK 16 (bs true 16 n ++ [33]) = (bs false 16 n).length := by rw [hf.2.1, hd.1]; exact bs_same _ _ _ _
  have hpos : 0 < (bs false 16 n).length := by
    rw [← bs_same true false]; exact List.length_pos_iff.2 d1
  have hh : hexed (48 :: 120 :: (bs true 16 n ++ [33])) = true := by
    simp [hexed, hx1, hk, hpos]
  unfold cst
  rw [if_neg (by simp), if_neg (by simp [hx0]), if_neg (by simp [hx0]), if_pos hh]
  simp only [List.drop_succ_cons, List.drop_zero]
  rw [hk, hf.1, hf.2.2, (hd.2.1 h1).1, (hd.2.1 h1).2]
end Go.Proofs.Ytcmeijeddjckjaa
