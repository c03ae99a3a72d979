/-
  Plain facts on digits, numbers read from bytes and C constants are proved. Conditions: those that each theorem names.
-/
import Derived.Below
namespace Go.Proofs.Ytcmeijeddjckjaa
open Go.RowKit
def big : Int := 9223372036854775807
def iv (c : UInt8) : Int := c.toNat
theorem iv_lo (c : UInt8) : 0 ≤ iv c := by unfold iv; omega
theorem iv_hi (c : UInt8) : iv c ≤ 255 := by unfold iv; have := c.toNat_lt; omega
theorem iv_inj {a b : UInt8} (h : iv a = iv b) : a = b := by unfold iv at h; exact UInt8.toNat_inj.1 (by omega)
def dgv (no : Int) (x : Int) : Int := if 65 ≤ x ∧ x ≤ 70 then x - 55 else if 97 ≤ x ∧ x ≤ 102 then x - 87 else if 48 ≤ x ∧ x ≤ 57 then x - 48 else no
theorem dgv_cases (x : Int) : (0 ≤ dgv 16 x ∧ dgv 16 x ≤ 15 ∧ dgv 99 x = dgv 16 x) ∨ (dgv 16 x = 16 ∧ dgv 99 x = 99) := by
  unfold dgv; split <;> (try split) <;> (try split) <;> omega
theorem dgv_lo (x : Int) : 0 ≤ dgv 16 x ∧ dgv 16 x ≤ 16 := by have := dgv_cases x; omega
/-- a digit's step of a number that goes no farther than 'big' -/
def stp (base : Int) (s : Int × Bool) (d : Int) : Int × Bool := if s.2 = true ∨ (big - d) / base < s.1 then (big, true) else (s.1 * base + d, false)
def st (base : Int) (l : List UInt8) : Int × Bool := l.foldl (fun s c => stp base s (dgv 16 (iv c))) (0, false)
def isd (base : Int) (c : UInt8) : Bool := decide (dgv 16 (iv c) < base)
def front (base : Int) (l : List UInt8) : List UInt8 := l.takeWhile (isd base)
def okb (base : Int) : Bool := decide (2 ≤ base ∧ base ≤ 16)
def digN (base : Int) (l : List UInt8) : Int := if okb base then (st base (front base l)).1 else 0
def digK (base : Int) (l : List UInt8) : Nat := if okb base then (front base l).length else 0
def digO (base : Int) (l : List UInt8) : Bool := if okb base then (st base (front base l)).2 else false

theorem stp_bd (base : Int) (s : Int × Bool) (d : Int) (hb : 2 ≤ base) (h0 : 0 ≤ s.1) (_h1 : s.1 ≤ big) (hd : 0 ≤ d) : 0 ≤ (stp base s d).1 ∧ (stp base s d).1 ≤ big := by
  unfold stp
  split
  · simp [big]
  · rename_i h
    simp only [not_or, Int.not_lt] at h
    have h2 := h.2
    have h3 : s.1 * base ≤ big - d := by
      have := Int.mul_le_mul_of_nonneg_right h2 (show 0 ≤ base by omega)
      have := Int.ediv_mul_le (big - d) (show base ≠ 0 by omega)
      omega
    have := Int.mul_nonneg h0 (show 0 ≤ base by omega)
    constructor <;> simp only <;> omega
theorem stp_over {base n d : Int} {o : Bool} (h : o = true ∨ (9223372036854775807 - d) / base < n) : stp base (n, o) d = (big, true) := by
  unfold stp; rw [if_pos]; exact h
theorem stp_in {base n d : Int} {o : Bool} (h : ¬ o = true) (h2 : n ≤ (9223372036854775807 - d) / base) : stp base (n, o) d = (n * base + d, false) := by
  unfold stp; rw [if_neg]; simp only [big, not_or, Int.not_lt]; exact ⟨h, h2⟩
theorem stp_room {base n d : Int} (hb : 2 ≤ base) (h0 : 0 ≤ n) (_hd : 0 ≤ d) (h2 : n ≤ (9223372036854775807 - d) / base) : 0 ≤ n * base ∧ n * base + d ≤ 9223372036854775807 := by
  have := Int.mul_le_mul_of_nonneg_right h2 (show 0 ≤ base by omega)
  have := Int.ediv_mul_le (9223372036854775807 - d) (show base ≠ 0 by omega)
  have := Int.mul_nonneg h0 (show 0 ≤ base by omega)
  omega
theorem all_snoc {α : Type} {p : α → Bool} {l : List α} {k : Nat} (h : ∀ i (hi : i < l.length), i < k → p l[i] = true) (hk : k < l.length) (hp : p l[k] = true) : ∀ i (hi : i < l.length), i < k + 1 → p l[i] = true := by
  intro i hi hik
  rcases Nat.lt_or_ge i k with h1 | h1
  · exact h i hi h1
  · obtain rfl : i = k := by omega
    exact hp
theorem stp_false {base n d : Int} {o : Bool} (h : (stp base (n, o) d).2 = false) : o = false := by
  unfold stp at h
  cases o
  · rfl
  · simp at h
theorem st_nil (base : Int) : st base [] = (0, false) := rfl
theorem st_snoc (base : Int) (l : List UInt8) (c : UInt8) : st base (l ++ [c]) = stp base (st base l) (dgv 16 (iv c)) := by simp [st]
theorem st_bd (base : Int) (hb : 2 ≤ base) (l : List UInt8) : 0 ≤ (st base l).1 ∧ (st base l).1 ≤ big := by
  unfold st
  suffices h : ∀ (l : List UInt8) (s : Int × Bool), 0 ≤ s.1 → s.1 ≤ big → 0 ≤ (l.foldl (fun s c => stp base s (dgv 16 (iv c))) s).1 ∧ (l.foldl (fun s c => stp base s (dgv 16 (iv c))) s).1 ≤ big from h l _ (by simp) (by simp [big])
  intro l
  induction l with
  | nil => intro s h0 h1; exact ⟨h0, h1⟩
  | cons c l ih =>
    intro s h0 h1
    have := stp_bd base s (dgv 16 (iv c)) hb h0 h1 (dgv_lo _).1
    exact ih _ this.1 this.2
theorem take_snoc (l : List UInt8) (k : Nat) (h : k < l.length) : l.take (k + 1) = l.take k ++ [l[k]] := by
  rw [List.take_succ_eq_append_getElem h]
/-- what 'takeWhile' takes, said by places -/
theorem takeWhile_at {α : Type} (p : α → Bool) (l : List α) (k : Nat) (hk : k ≤ l.length) (h : ∀ i (hi : i < l.length), i < k → p l[i] = true) (he : ∀ (hi : k < l.length), p l[k] = false) : l.takeWhile p = l.take k := by
  induction l generalizing k with
  | nil => simp
  | cons a l ih =>
    cases k with
    | zero =>
      have := he (by simp)
      simp at this
      simp [this]
    | succ k =>
      have ha : p a = true := h 0 (by simp) (by omega)
      simp only [List.takeWhile_cons, ha, List.take_succ_cons, if_true]
      rw [ih k (by simpa using hk) (fun i hi hik => h (i + 1) (by simpa using hi) (by omega)) (fun hi => he (by simpa using hi))]
theorem dig_out {base : Int} (hb : okb base = true) {l : List UInt8} {k : Nat} (hk : k ≤ l.length) (h : ∀ i (hi : i < l.length), i < k → isd base l[i] = true) (he : ∀ (hi : k < l.length), isd base l[k] = false) :
    digN base l = (st base (l.take k)).1 ∧ digK base l = k ∧ digO base l = (st base (l.take k)).2 := by
  have := takeWhile_at (isd base) l k hk h he
  simp only [digN, digK, digO, hb, front, this, if_true]
  exact ⟨trivial, by simp [hk], trivial⟩
theorem dig_bad {base : Int} (hb : okb base = false) (l : List UInt8) : digN base l = 0 ∧ digK base l = 0 ∧ digO base l = false := by
  simp [digN, digK, digO, hb]

/-- a constant as C writes it: its value, its bytes, is it too great -/
def d3 (base : Int) (l : List UInt8) : Int × Int × Bool := (digN base l, (digK base l : Int), digO base l)
def hexed (l : List UInt8) : Bool := decide (1 < l.length) && (iv (l.getD 1 0) == 120 || iv (l.getD 1 0) == 88) && decide (0 < digK 16 (l.drop 2))
def cst (l : List UInt8) : Int × Int × Bool :=
  if l = [] then (0, 0, false)
  else if iv (l.getD 0 0) < 48 ∨ 57 < iv (l.getD 0 0) then (0, 0, false)
  else if iv (l.getD 0 0) ≠ 48 then d3 10 l
  else if hexed l then (digN 16 (l.drop 2), (digK 16 (l.drop 2) : Int) + 2, digO 16 (l.drop 2))
  else d3 8 l
theorem digK_le (base : Int) (l : List UInt8) : digK base l ≤ l.length := by
  unfold digK front
  split
  · exact (List.takeWhile_sublist _).length_le
  · omega
theorem front_head (base : Int) (c : UInt8) (t : List UInt8) (h : isd base c = false) : front base (c :: t) = [] := by simp [front, h]
theorem d3_none (base : Int) (c : UInt8) (t : List UInt8) (h : isd base c = false) : d3 base (c :: t) = (0, 0, false) := by
  unfold d3 digN digK digO
  split <;> simp [front_head base c t h, st]
/-- the reference's way -/
def rcst (l : List UInt8) : Int × Int × Bool :=
  if 2 < l.length ∧ iv (l.getD 0 0) = 48 ∧ (iv (l.getD 1 0) = 120 ∨ iv (l.getD 1 0) = 88) ∧ dgv 99 (iv (l.getD 2 0)) < 16 then (digN 16 (l.drop 2), (digK 16 (l.drop 2) : Int) + 2, digO 16 (l.drop 2))
  else if 0 < l.length ∧ iv (l.getD 0 0) = 48 then d3 8 l
  else d3 10 l
theorem rcst_eq (l : List UInt8) : rcst l = cst l := by
  cases l with
  | nil => simp [rcst, cst, d3, digN, digK, digO, front, st]
  | cons c t =>
    unfold rcst cst
    simp only [List.getD_cons_zero, List.length_cons, reduceCtorEq, if_false]
    by_cases h0 : iv c = 48
    · have hx : ¬ (iv c < 48 ∨ 57 < iv c) := by omega
      rw [if_neg hx, if_neg (by omega : ¬ iv c ≠ 48)]
      have e8 : (0 < t.length + 1 ∧ iv c = 48) := ⟨by omega, h0⟩
      rw [if_pos e8]
      cases t with
      | nil => simp [hexed]
      | cons c1 t1 =>
        simp only [hexed, List.length_cons, List.getD_cons_succ, List.getD_cons_zero, List.drop_succ_cons, List.drop_zero]
        cases t1 with
        | nil => simp [digK, front]
        | cons c2 t2 =>
          have hdc := dgv_cases (iv c2)
          by_cases h2 : dgv 16 (iv c2) < 16
          · have hk : 0 < digK 16 (c2 :: t2) := by
              have : isd 16 c2 = true := by simpa [isd] using h2
              simp [digK, okb, front, this]
            have h2' : dgv 99 (iv c2) < 16 := by omega
            by_cases h1 : iv c1 = 120 ∨ iv c1 = 88
            · rw [if_pos ⟨by simp, h0, h1, by simpa using h2'⟩, if_pos]
              simpa [hk] using h1
            · rw [if_neg (fun h => h1 h.2.2.1), if_neg]
              simp only [not_or] at h1
              simp [h1.1, h1.2]
          · have hk : digK 16 (c2 :: t2) = 0 := by
              have : isd 16 c2 = false := by simpa [isd] using h2
              simp [digK, front_head 16 c2 t2 this]
            have h2' : ¬ dgv 99 (iv c2) < 16 := by omega
            rw [if_neg (fun h => h2' (by simpa using h.2.2.2)), if_neg (by simp [hk])]
    · rw [if_neg (fun h => h0 h.2.1), if_neg (fun h => h0 h.2)]
      by_cases hx : iv c < 48 ∨ 57 < iv c
      · rw [if_pos hx]
        refine d3_none 10 c t ?_
        have := dgv_cases (iv c)
        unfold isd dgv at *
        simp only [decide_eq_false_iff_not, Int.not_lt]
        split <;> (try split) <;> (try split) <;> omega
      · rw [if_neg hx, if_pos h0]
end Go.Proofs.Ytcmeijeddjckjaa
