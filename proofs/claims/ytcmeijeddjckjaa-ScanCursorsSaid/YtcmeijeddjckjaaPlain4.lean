/-
  Plain facts: a number's digits to a base are read back as the number. Conditions: those that each theorem names.
-/
import Derived.Test.YtcmeijeddjckjaaPlain3
namespace Go.Proofs.Ytcmeijeddjckjaa
open Go.RowKit
theorem bacc_app (up : Bool) (base : Int) (f : Nat) : ∀ (n : Int) (acc : List UInt8), bacc up base f n acc = bacc up base f n [] ++ acc := by
  induction f with
  | zero => intro n acc; simp [bacc]
  | succ f ih =>
    intro n acc
    unfold bacc
    split
    · simp
    · rw [ih _ (_ :: acc), ih _ [_]]; simp
theorem bacc_step {up : Bool} {base : Int} {f : Nat} {n : Int} (h : ¬ n / base = 0) : bacc up base (f + 1) n [] = bacc up base f (n / base) [] ++ [toB (dch up (n % base))] := by
  rw [bacc_more h, bacc_app]
def fval (b : Int) (g : UInt8 → Int) (l : List UInt8) : Int := l.foldl (fun a c => a * b + g c) 0
theorem fval_snoc (b : Int) (g : UInt8 → Int) (l : List UInt8) (c : UInt8) : fval b g (l ++ [c]) = fval b g l * b + g c := by simp [fval]
theorem bacc_val {up : Bool} {base : Int} (hb : 2 ≤ base) {g : UInt8 → Int} {p : UInt8 → Bool} (hg : ∀ d, 0 ≤ d → d < base → g (toB (dch up d)) = d ∧ p (toB (dch up d)) = true) (f : Nat) :
    ∀ n : Int, 0 ≤ n → n < 2 ^ f → 0 < f → bacc up base f n [] ≠ [] ∧ (bacc up base f n []).all p = true ∧ fval base g (bacc up base f n []) = n := by
  induction f with
  | zero => intro n _ _ h; omega
  | succ f ih =>
    intro n h0 h1 _
    have hd0 : 0 ≤ n % base := Int.emod_nonneg _ (by omega)
    have hd1 : n % base < base := Int.emod_lt_of_pos _ (by omega)
    have he := Int.mul_ediv_add_emod n base
    obtain ⟨hg1, hg2⟩ := hg _ hd0 hd1
    by_cases hq : n / base = 0
    · rw [bacc_last hq]
      refine ⟨by simp, by simp [hg2], ?_⟩
      rw [hq, Int.mul_zero, Int.zero_add] at he
      simp only [fval, List.foldl_cons, List.foldl_nil, hg1, Int.zero_mul, Int.zero_add]; exact he
    · have hq0 : 0 ≤ n / base := Int.ediv_nonneg h0 (by omega)
      have hh := half hb h0 h1
      obtain ⟨_, i2, i3⟩ := ih (n / base) hq0 hh (some_room (n := n / base) (by omega) hh)
      rw [bacc_step hq]
      refine ⟨by simp, by rw [List.all_append, i2]; simp [hg2], ?_⟩
      rw [fval_snoc, i3, hg1, Int.mul_comm]
      exact he
theorem dgv_dch (up : Bool) {d : Int} (h0 : 0 ≤ d) (h1 : d < 16) : dgv 16 (dch up d) = d := by
  unfold dgv dch
  cases up <;> (simp only [Bool.false_eq_true, if_true, if_false]; repeat' split) <;> omega
theorem bs_digits {up : Bool} {base n : Int} (hb : 2 ≤ base) (hb2 : base ≤ 16) (h0 : 0 ≤ n) (h1 : n ≤ 18446744073709551615) :
    bs up base n ≠ [] ∧ (bs up base n).all (isd base) = true ∧ fval base (fun c => dgv 16 (iv c)) (bs up base n) = n := by
  refine bacc_val hb (fun d hd0 hd1 => ?_) 64 n h0 (by omega) (by omega)
  have hbd := dch_bd up hd0 (by omega : d < 16)
  have : dgv 16 (iv (toB (dch up d))) = d := by rw [iv_toB (by omega) (by omega)]; exact dgv_dch up hd0 (by omega)
  exact ⟨this, by unfold isd; rw [this]; simpa using hd1⟩
theorem bs_dec {n : Int} (h0 : 0 ≤ n) (h1 : n ≤ 18446744073709551615) : bs false 10 n ≠ [] ∧ (bs false 10 n).all dec = true ∧ val (bs false 10 n) = n := by
  refine bacc_val (by omega) (fun d hd0 hd1 => ?_) 64 n h0 (by omega) (by omega)
  have : iv (toB (dch false d)) = 48 + d := by
    rw [iv_toB (by unfold dch; rw [if_pos hd1]; omega) (by unfold dch; rw [if_pos hd1]; omega)]
    unfold dch; rw [if_pos hd1]
  exact ⟨by rw [this]; omega, by unfold dec; rw [this]; simp; omega⟩
theorem whole_txt {n : Int} (h0 : -9223372036854775808 ≤ n) (h1 : n ≤ 9223372036854775807) : whole (txt n) = (n, true) := by
  by_cases hn : n < 0
  · have e : txt n = 45 :: bs false 10 (-n) := by simp [txt, hn]
    obtain ⟨b1, b2, b3⟩ := bs_dec (n := -n) (by omega) (by omega)
    rw [e]
    have hneg : wneg (45 :: bs false 10 (-n)) = true := rfl
    have hrest : wrest (45 :: bs false 10 (-n)) = bs false 10 (-n) := rfl
    have hlim : wlim (45 :: bs false 10 (-n)) = 9223372036854775808 := rfl
    rw [whole_neg (by rw [hrest, hlim]; exact wok_yes b1 b2 (by rw [b3]; omega)) hneg, hrest, b3, Int.neg_neg]
  · have e : txt n = bs false 10 n := by simp [txt, hn]
    obtain ⟨b1, b2, b3⟩ := bs_dec (n := n) (by omega) (by omega)
    rw [e]
    generalize bs false 10 n = l at *
    have hneg : wneg l = false := by
      cases l with
      | nil => rfl
      | cons c t =>
        simp only [List.all_cons, Bool.and_eq_true] at b2
        have := dec_bd b2.1
        unfold wneg
        simp only [List.head?_cons]
        rw [Bool.eq_false_iff]
        intro h
        have : c = 45 := by simpa using h
        subst this
        simp [iv] at *
    have hrest : wrest l = l := by simp [wrest, hneg]
    have hlim : wlim l = 9223372036854775807 := by simp [wlim, hneg]
    rw [whole_pos (by rw [hrest, hlim]; exact wok_yes b1 b2 (by rw [b3]; omega)) hneg, hrest, b3]
theorem all_isd_nonneg (base : Int) (hb : 2 ≤ base) (l : List UInt8) : 0 ≤ fval base (fun c => dgv 16 (iv c)) l := by
  unfold fval
  suffices h : ∀ (l : List UInt8) (a : Int), 0 ≤ a → 0 ≤ l.foldl (fun a c => a * base + dgv 16 (iv c)) a from h l 0 (by omega)
  intro l
  induction l with
  | nil => intro a h; exact h
  | cons c t ih =>
    intro a h
    exact ih _ (Int.add_nonneg (Int.mul_nonneg h (by omega)) (dgv_lo (iv c)).1)
/-- what the steps come to: the value, or that it is too great -/
theorem st_val (base : Int) (hb : 2 ≤ base) (l : List UInt8) : st base l = if fval base (fun c => dgv 16 (iv c)) l ≤ big then (fval base (fun c => dgv 16 (iv c)) l, false) else (big, true) := by
  have key : ∀ l : List UInt8, st base l.reverse = if fval base (fun c => dgv 16 (iv c)) l.reverse ≤ big then (fval base (fun c => dgv 16 (iv c)) l.reverse, false) else (big, true) := by
    intro l
    induction l with
    | nil => simp [st, fval, big]
    | cons c t ih =>
      rw [List.reverse_cons, st_snoc, fval_snoc, ih]
      have h0 := all_isd_nonneg base hb t.reverse
      generalize fval base (fun c => dgv 16 (iv c)) t.reverse = v at *
      have hd := dgv_lo (iv c)
      generalize dgv 16 (iv c) = d at *
      have hm := Int.mul_nonneg h0 (show 0 ≤ base by omega)
      by_cases hv : v ≤ big
      · rw [if_pos hv]
        by_cases hw : v * base + d ≤ big
        · rw [if_pos hw, stp_in (by simp) (by have : v ≤ (big - d) / base := Int.le_ediv_of_mul_le (by omega) (by omega); exact this)]
        · rw [if_neg hw, stp_over (.inr ?_)]
          have : (big - d) / base < v := Int.ediv_lt_of_lt_mul (by omega) (by omega)
          exact this
      · rw [if_neg hv, stp_over (.inl rfl), if_neg]
        have : v ≤ v * base := by
          have := Int.mul_le_mul_of_nonneg_left (show 1 ≤ base by omega) h0
          omega
        omega
  have := key l.reverse
  simpa using this
theorem front_all {base : Int} {l : List UInt8} (h : l.all (isd base) = true) : front base l = l := by
  unfold front
  induction l with
  | nil => rfl
  | cons c t ih =>
    simp only [List.all_cons, Bool.and_eq_true] at h
    rw [List.takeWhile_cons, if_pos h.1, ih h.2]
theorem dig_all {base : Int} (hb : 2 ≤ base) (hb2 : base ≤ 16) {l : List UInt8} (h : l.all (isd base) = true) :
    digK base l = l.length ∧ (fval base (fun c => dgv 16 (iv c)) l ≤ big → digN base l = fval base (fun c => dgv 16 (iv c)) l ∧ digO base l = false) ∧ (big < fval base (fun c => dgv 16 (iv c)) l → digO base l = true) := by
  have hok : okb base = true := by simp [okb, hb, hb2]
  simp only [digK, digN, digO, hok, if_true, front_all h, st_val base hb l]
  refine ⟨trivial, fun hv => by simp [hv], fun hv => ?_⟩
  rw [if_neg (by omega)]
end Go.Proofs.Ytcmeijeddjckjaa
