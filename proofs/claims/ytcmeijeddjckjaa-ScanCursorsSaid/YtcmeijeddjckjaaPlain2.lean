/-
  Plain facts on whole numbers read from a text are proved. Conditions: those that each theorem names.
-/
import Derived.Test.YtcmeijeddjckjaaPlain
namespace Go.Proofs.Ytcmeijeddjckjaa
open Go.RowKit
def dec (c : UInt8) : Bool := decide (48 ≤ iv c ∧ iv c ≤ 57)
def val (l : List UInt8) : Int := l.foldl (fun n c => n * 10 + (iv c - 48)) 0
theorem val_nil : val [] = 0 := rfl
theorem val_snoc (l : List UInt8) (c : UInt8) : val (l ++ [c]) = val l * 10 + (iv c - 48) := by simp [val]
theorem dec_bd {c : UInt8} (h : dec c = true) : 48 ≤ iv c ∧ iv c ≤ 57 := by simpa [dec] using h
theorem foldl_mono (l : List UInt8) (h : l.all dec = true) (n : Int) (hn : 0 ≤ n) : n ≤ l.foldl (fun n c => n * 10 + (iv c - 48)) n := by
  induction l generalizing n with
  | nil => exact Int.le_refl _
  | cons c t ih =>
    simp only [List.all_cons, Bool.and_eq_true] at h
    have hd := dec_bd h.1
    have := ih h.2 (n * 10 + (iv c - 48)) (by omega)
    simp only [List.foldl_cons]
    omega
theorem val_nonneg (l : List UInt8) (h : l.all dec = true) : 0 ≤ val l := foldl_mono l h 0 (by omega)
theorem all_take {l : List UInt8} (k : Nat) (h : l.all dec = true) : (l.take k).all dec = true := by
  rw [List.all_eq_true] at *
  exact fun x hx => h x (List.mem_of_mem_take hx)
theorem all_drop {l : List UInt8} (k : Nat) (h : l.all dec = true) : (l.drop k).all dec = true := by
  rw [List.all_eq_true] at *
  exact fun x hx => h x (List.mem_of_mem_drop hx)
theorem val_take_le (l : List UInt8) (k : Nat) (h : l.all dec = true) : val (l.take k) ≤ val l := by
  have e : val l = (l.drop k).foldl (fun n c => n * 10 + (iv c - 48)) (val (l.take k)) := by
    unfold val
    rw [← List.foldl_append, List.take_append_drop]
  rw [e]
  exact foldl_mono _ (all_drop k h) _ (val_nonneg _ (all_take k h))
/-- all is a number no greater than a limit -/
def wok (lim : Int) (l : List UInt8) : Bool := !l.isEmpty && l.all dec && decide (val l ≤ lim)
theorem wok_digit {lim : Int} {l : List UInt8} {k : Nat} (hk : k < l.length) (h : dec l[k] = false) : wok lim l = false := by
  have : l.all dec = false := by
    rw [List.all_eq_false]
    exact ⟨l[k], List.getElem_mem hk, by simp [h]⟩
  simp [wok, this]
theorem wok_great {lim : Int} {l : List UInt8} {k : Nat} (h : lim < val (l.take k)) : wok lim l = false := by
  unfold wok
  cases ha : l.all dec with
  | false => simp
  | true =>
    have := val_take_le l k ha
    simp only [Bool.and_eq_false_iff, decide_eq_false_iff_not]
    omega
theorem wok_yes {lim : Int} {l : List UInt8} (h : l ≠ []) (ha : l.all dec = true) (hv : val l ≤ lim) : wok lim l = true := by
  simp [wok, ha, hv, h]
theorem wok_nil (lim : Int) : wok lim [] = false := rfl
theorem all_snoc_dec {l : List UInt8} {k : Nat} (hk : k < l.length) (h : (l.take k).all dec = true) (hd : dec l[k] = true) : (l.take (k + 1)).all dec = true := by
  rw [take_snoc l k hk, List.all_append, h]; simp [hd]
def wneg (l : List UInt8) : Bool := l.head? == some 45
def wrest (l : List UInt8) : List UInt8 := if wneg l then l.drop 1 else l
def wlim (l : List UInt8) : Int := if wneg l then 9223372036854775808 else 9223372036854775807
def whole (l : List UInt8) : Int × Bool := if wok (wlim l) (wrest l) then (if wneg l then - val (wrest l) else val (wrest l), true) else (0, false)
theorem whole_no {l : List UInt8} (h : wok (wlim l) (wrest l) = false) : whole l = (0, false) := by simp [whole, h]
theorem whole_neg {l : List UInt8} (h : wok (wlim l) (wrest l) = true) (hn : wneg l = true) : whole l = (- val (wrest l), true) := by simp [whole, h, hn]
theorem whole_pos {l : List UInt8} (h : wok (wlim l) (wrest l) = true) (hn : wneg l = false) : whole l = (val (wrest l), true) := by simp [whole, h, hn]
end Go.Proofs.Ytcmeijeddjckjaa
