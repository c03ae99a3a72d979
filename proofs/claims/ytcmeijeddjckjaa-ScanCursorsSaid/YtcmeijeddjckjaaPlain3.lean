/-
  Plain facts on a number's digits to a base are proved. Conditions: those that each theorem names.
-/
import Derived.Test.YtcmeijeddjckjaaPlain2
namespace Go.Proofs.Ytcmeijeddjckjaa
open Go.RowKit
/-- a digit's letter, as a number -/
def dch (up : Bool) (d : Int) : Int := if d < 10 then 48 + d else if up then 55 + d else 87 + d
def toB (x : Int) : UInt8 := UInt8.ofNat x.toNat
theorem iv_toB {x : Int} (h0 : 0 ≤ x) (h1 : x ≤ 255) : iv (toB x) = x := by
  unfold iv toB
  rw [UInt8.toNat_ofNat_of_lt' (by simp; omega)]
  omega
theorem dch_bd (up : Bool) {d : Int} (h0 : 0 ≤ d) (h1 : d < 16) : 48 ≤ dch up d ∧ dch up d ≤ 102 := by
  unfold dch; split
  · omega
  · split <;> omega
/-- digits, the last one first found, gathered ahead of some -/
def bacc (up : Bool) (base : Int) : Nat → Int → List UInt8 → List UInt8
  | 0, _, acc => acc
  | f + 1, n, acc => if n / base = 0 then toB (dch up (n % base)) :: acc else bacc up base f (n / base) (toB (dch up (n % base)) :: acc)
def bs (up : Bool) (base n : Int) : List UInt8 := bacc up base 64 n []
theorem bacc_last {up : Bool} {base n : Int} {f : Nat} {acc : List UInt8} (h : n / base = 0) : bacc up base (f + 1) n acc = toB (dch up (n % base)) :: acc := by simp [bacc, h]
theorem bacc_more {up : Bool} {base n : Int} {f : Nat} {acc : List UInt8} (h : ¬ n / base = 0) : bacc up base (f + 1) n acc = bacc up base f (n / base) (toB (dch up (n % base)) :: acc) := by simp [bacc, h]
theorem bacc_len (up : Bool) (base : Int) (f : Nat) : ∀ (n : Int) (acc : List UInt8), (bacc up base f n acc).length ≤ acc.length + f := by
  induction f with
  | zero => intro n acc; simp [bacc]
  | succ f ih =>
    intro n acc
    unfold bacc
    split
    · simp
    · have := ih (n / base) (toB (dch up (n % base)) :: acc)
      simp at this; omega
theorem bs_len (up : Bool) (base n : Int) : (bs up base n).length ≤ 64 := by
  have := bacc_len up base 64 n []
  simpa [bs] using this
def bsA (up : Bool) (base n : Int) : List UInt8 := if okb base then bs up base n else []
theorem bsA_len (up : Bool) (base n : Int) : (bsA up base n).length ≤ 64 := by
  unfold bsA; split
  · exact bs_len up base n
  · simp
def txt (n : Int) : List UInt8 := if n < 0 then 45 :: bs false 10 (-n) else bs false 10 n
theorem half {base n : Int} {f : Nat} (hb : 2 ≤ base) (_h0 : 0 ≤ n) (h : n < 2 ^ (f + 1)) : n / base < 2 ^ f := by
  have h1 : n / base ≤ n / 2 := Int.le_ediv_of_mul_le (by omega) (by
    have := Int.ediv_mul_le n (show base ≠ 0 by omega)
    have := Int.mul_le_mul_of_nonneg_left hb (Int.ediv_nonneg _h0 (show 0 ≤ base by omega))
    omega)
  rw [Int.pow_succ] at h
  omega
theorem some_room {n : Int} {f : Nat} (h0 : 0 < n) (h : n < 2 ^ f) : 0 < f := by
  cases f with
  | zero => simp at h; omega
  | succ f => omega
end Go.Proofs.Ytcmeijeddjckjaa
