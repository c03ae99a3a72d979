/-
  Sets of bytes: what set.Has and its like compute. Conditions: those that each theorem names.
-/
import Derived.Test.YtafmhhhboihdfaaDoorRows
import Derived.Below
import Derived.WalkKit
import Derived.WalkSpells
import Derived.WalkLawsBesides
import Derived.Lib.Hide
import Derived.Laws.Bits64b
namespace Go.Proofs.YtafmhhhboihdfaaDoor
open Go.RowKit
set_option linter.unusedVariables false
theorem ret_int {k : IntKind} {a b : Int} (h : a = b) : Ending.returned (.int k a) = .returned (.int k b) := by rw [h]
theorem ret_bool {a b : Bool} (h : a = b) : Ending.returned (.bool a) = .returned (.bool b) := by rw [h]
theorem heap_setCell_at (w : World) (g k : Nat) (C : Array Value) (t : TypeId) (fz : Nat × Nat) (v : Value) (h : w.heap[g]? = some (.cells C t fz)) : (w.setCell ⟨g, k, none⟩ v).heap[g]? = some (.cells (C.setIfInBounds k v) t fz) := by
  simp [World.setCell, Array.getElem?_modify, h]
theorem cell_of_heap {w : World} {g k : Nat} {C : Array Value} {t : TypeId} {fz : Nat × Nat} (h : w.heap[g]? = some (.cells C t fz)) : w.cell? ⟨g, k, none⟩ = C[k]? := by
  rw [World.cell?, h]; rfl
theorem grown_setCell (w : World) (c o : Nat) (v : Value) : w.grownBy (w.setCell ⟨c, o, none⟩ v) (some c) :=
  ⟨rfl, rfl, rfl, by simp [World.setCell], fun k _ hne => Below.heap_setCell w ⟨c, o, none⟩ v k (fun e => hne (congrArg some e))⟩
theorem drewN_grown (w : World) (n : Nat) (row : Option Nat) : w.grownBy (w.drewN n) row := by
  refine ⟨rfl, rfl, rfl, ?_, fun k hk _ => ?_⟩
  · simp [World.drewN]
  · rfl
theorem drew_grown (w : World) (row : Option Nat) : w.grownBy w.drew row := ⟨rfl, rfl, rfl, Nat.le_refl _, fun k hk _ => rfl⟩
/-- word k of a set -/
def wd (S : BitVec 256) (k : Nat) : Nat := (S.extractLsb' (64 * k) 64).toNat
def wv (S : BitVec 256) (k : Nat) : Value := .int .u64 (wd S k : Int)
def setV (S : BitVec 256) : Value := .agg #[wv S 0, wv S 1, wv S 2, wv S 3]
theorem wd_lt (S : BitVec 256) (k : Nat) : wd S k < 2 ^ 64 := (S.extractLsb' (64 * k) 64).isLt
theorem wd_test (S : BitVec 256) (k i : Nat) (h : i < 64) : (wd S k).testBit i = S.getLsbD (64 * k + i) := by
  unfold wd; rw [BitVec.testBit_toNat, BitVec.getLsbD_extractLsb']; simp [h]
theorem wd_shr (S : BitVec 256) (k i : Nat) (h : i < 64) : ((wd S k) >>> i) &&& 1 = (S.getLsbD (64 * k + i)).toNat := by
  rw [← wd_test S k i h, Nat.testBit_eq_decide_div_mod_eq, Nat.and_one_is_mod, Nat.shiftRight_eq_div_pow]
  rcases Nat.mod_two_eq_zero_or_one (wd S k / 2 ^ i) with h | h <;> simp [h]

theorem has_word (S : BitVec 256) (b k : Nat) (h : b / 64 = k) : (bits .and .u64 ((wd S k : Int) / 2 ^ (b % 64)) 1 == 1) = S.getLsbD b := by
  have h1 : (wd S k : Int) / 2 ^ (b % 64) = ((wd S k >>> (b % 64) : Nat) : Int) := by
    rw [Nat.shiftRight_eq_div_pow]; push_cast; rfl
  have h2 : wd S k >>> (b % 64) < 18446744073709551616 := by
    rw [Nat.shiftRight_eq_div_pow]; exact Nat.lt_of_le_of_lt (Nat.div_le_self _ _) (wd_lt S k)
  have h3 := bits_and_u64_nat (wd S k >>> (b % 64)) 1 h2 (by omega)
  rw [h1, show (1 : Int) = ((1 : Nat) : Int) from rfl, h3, wd_shr S k (b % 64) (by omega), show 64 * k + b % 64 = b by omega]
  cases S.getLsbD b <;> rfl
set_option maxHeartbeats 400000 in
theorem has_any (S : BitVec 256) (b : Nat) (w : World) (hb : b ≤ 255) :
    Calls Tryd.prog 52 #[setV S, .int .u8 b] w fun e w' => e = .returned (.bool (S.getLsbD b)) ∧ Below w.heap.size w w' := by
  unfold setV wv
  have HW := fun k => wd_lt S k
  have HQ := Lib.hid (fun k => has_word S b k)
  generalize S.getLsbD b = r at *
  generalize wd S = q at *
  rcases (show b / 64 = 0 ∨ b / 64 = 1 ∨ b / 64 = 2 ∨ b / 64 = 3 by omega) with h | h | h | h
  · have hd : (b : Int) / 64 = 0 := by omega
    go_enter Tryd.func52, Tryd.ntmps52
    go_wp2
    go_ret
    exact ⟨ret_bool (HQ.out 0 h), (Below.refl _ _).alloc (Nat.le_refl _) _⟩
  · have hd : (b : Int) / 64 = 1 := by omega
    go_enter Tryd.func52, Tryd.ntmps52
    go_wp2
    go_ret
    exact ⟨ret_bool (HQ.out 1 h), (Below.refl _ _).alloc (Nat.le_refl _) _⟩
  · have hd : (b : Int) / 64 = 2 := by omega
    go_enter Tryd.func52, Tryd.ntmps52
    go_wp2
    go_ret
    exact ⟨ret_bool (HQ.out 2 h), (Below.refl _ _).alloc (Nat.le_refl _) _⟩
  · have hd : (b : Int) / 64 = 3 := by omega
    go_enter Tryd.func52, Tryd.ntmps52
    go_wp2
    go_ret
    exact ⟨ret_bool (HQ.out 3 h), (Below.refl _ _).alloc (Nat.le_refl _) _⟩
/-- the bits of a set and of one byte -/
def bit (b : Nat) : BitVec 256 := 1#256 <<< b
theorem bit_get (b i : Nat) (hi : i < 256) : (bit b).getLsbD i = decide (i = b) := by
  unfold bit
  rw [BitVec.getLsbD_shiftLeft, BitVec.getLsbD_one]
  by_cases h : i = b
  · subst h; simp [hi]
  · by_cases h2 : i < b
    · simp [h, h2]
    · have : i - b ≠ 0 := by omega
      simp [h, this]
theorem wd_or (S T : BitVec 256) (k : Nat) : wd (S ||| T) k = wd S k ||| wd T k := by
  apply Nat.eq_of_testBit_eq; intro i
  rw [Nat.testBit_or]
  by_cases h : i < 64
  · rw [wd_test _ _ _ h, wd_test _ _ _ h, wd_test _ _ _ h, BitVec.getLsbD_or]
  · rw [Nat.testBit_lt_two_pow (Nat.lt_of_lt_of_le (wd_lt _ _) (Nat.pow_le_pow_right (by omega) (by omega))), Nat.testBit_lt_two_pow (Nat.lt_of_lt_of_le (wd_lt _ _) (Nat.pow_le_pow_right (by omega) (by omega))), Nat.testBit_lt_two_pow (Nat.lt_of_lt_of_le (wd_lt _ _) (Nat.pow_le_pow_right (by omega) (by omega)))]
    rfl
theorem wd_bit_eq (b : Nat) (hb : b ≤ 255) : wd (bit b) (b / 64) = 2 ^ (b % 64) := by
  apply Nat.eq_of_testBit_eq; intro i
  rw [Nat.testBit_two_pow]
  by_cases h : i < 64
  · rw [wd_test _ _ _ h, bit_get _ _ (by omega)]
    by_cases h2 : b % 64 = i <;> simp [h2] <;> omega
  · rw [Nat.testBit_lt_two_pow (Nat.lt_of_lt_of_le (wd_lt _ _) (Nat.pow_le_pow_right (by omega) (by omega)))]
    simp; omega
theorem wd_bit_ne (b k : Nat) (hb : b ≤ 255) (hk : k < 4) (h : b / 64 ≠ k) : wd (bit b) k = 0 := by
  apply Nat.eq_of_testBit_eq; intro i
  rw [Nat.zero_testBit]
  by_cases h1 : i < 64
  · rw [wd_test _ _ _ h1, bit_get _ _ (by omega)]; simp; omega
  · rw [Nat.testBit_lt_two_pow (Nat.lt_of_lt_of_le (wd_lt _ _) (Nat.pow_le_pow_right (by omega) (by omega)))]
theorem put_same (S : BitVec 256) (b : Nat) (hb : b ≤ 255) : bits .or .u64 (wd S (b / 64) : Int) (IntKind.u64.wrap ((2 : Int) ^ (b % 64))) = wd (S ||| bit b) (b / 64) := by
  have h2 : 2 ^ (b % 64) < 18446744073709551616 := Nat.pow_lt_pow_right (a := 2) (n := 64) (by omega) (by omega)
  have h3 := bits_or_u64_nat (wd S (b / 64)) (2 ^ (b % 64)) (wd_lt S _) h2
  have h4 : IntKind.u64.wrap ((2 ^ (b % 64) : Nat) : Int) = ((2 ^ (b % 64) : Nat) : Int) := by
    rw [IntKind.wrap_u64]
    generalize 2 ^ (b % 64) = z at *
    omega
  rw [show (2 : Int) ^ (b % 64) = ((2 ^ (b % 64) : Nat) : Int) by push_cast; rfl, h4, h3, wd_or, wd_bit_eq b hb]
theorem put_other (S : BitVec 256) (b k : Nat) (hb : b ≤ 255) (hk : k < 4) (h : b / 64 ≠ k) : wd (S ||| bit b) k = wd S k := by
  rw [wd_or, wd_bit_ne b k hb hk h, Nat.or_zero]
def SetAt (w : World) (s : Nat) (S : BitVec 256) : Prop := w.heap[s]? = some (.cells #[wv S 0, wv S 1, wv S 2, wv S 3] 68)
theorem grown_trans {a b d : World} {row : Option Nat} (g : a.grownBy b row) (h : b.grownBy d row) : a.grownBy d row :=
  ⟨h.os.trans g.os, h.tape.trans g.tape, h.output.trans g.output, Nat.le_trans g.size h.size, fun k hk hne => (h.block k (Nat.lt_of_lt_of_le hk g.size) hne).trans (g.block k hk hne)⟩
set_option maxHeartbeats 800000 in
theorem put_any (S : BitVec 256) (b s : Nat) (w : World) (hb : b ≤ 255) (hs : SetAt w s S) :
    Calls Tryd.prog 58 #[.pointer (some ⟨s, 0, none⟩), .int .u8 b] w fun e w' => e = .returned (.tuple #[]) ∧ SetAt w' s (S ||| bit b) ∧ w.grownBy w' (some s) := by
  unfold SetAt wv at *
  have HP := Lib.hid (put_same S b hb)
  have HO := Lib.hid (fun k hk h => put_other S b k hb hk h)
  rcases (show b / 64 = 0 ∨ b / 64 = 1 ∨ b / 64 = 2 ∨ b / 64 = 3 by omega) with h | h | h | h
  · have hd : (b : Int) / 64 = 0 := by omega
    have c0 : w.cell? ⟨s, 0, none⟩ = some (.int .u64 (wd S 0)) := by rw [World.cell?, hs]; rfl
    have f0 : w.frozen? ⟨s, 0, none⟩ = false := by rw [World.frozen?, hs]; rfl
    have HS := Lib.hid hs
    rw [h] at HP
    clear hs
    go_enter Tryd.func58, Tryd.ntmps58
    go_region
    go_end0
    refine ⟨rfl, ?_, grown_trans (grown_setCell w s 0 _) (drew_grown _ _)⟩
    rw [HP.out, HO.out 1 (by omega) (by omega) , HO.out 2 (by omega) (by omega) , HO.out 3 (by omega) (by omega)]
    exact heap_setCell_at w s 0 _ 68 (0, 0) _ HS.out
  · have hd : (b : Int) / 64 = 1 := by omega
    have c0 : w.cell? ⟨s, 1, none⟩ = some (.int .u64 (wd S 1)) := by rw [World.cell?, hs]; rfl
    have f0 : w.frozen? ⟨s, 1, none⟩ = false := by rw [World.frozen?, hs]; rfl
    have HS := Lib.hid hs
    rw [h] at HP
    clear hs
    go_enter Tryd.func58, Tryd.ntmps58
    go_region
    go_end0
    refine ⟨rfl, ?_, grown_trans (grown_setCell w s 1 _) (drew_grown _ _)⟩
    rw [HP.out, HO.out 0 (by omega) (by omega) , HO.out 2 (by omega) (by omega) , HO.out 3 (by omega) (by omega)]
    exact heap_setCell_at w s 1 _ 68 (0, 0) _ HS.out
  · have hd : (b : Int) / 64 = 2 := by omega
    have c0 : w.cell? ⟨s, 2, none⟩ = some (.int .u64 (wd S 2)) := by rw [World.cell?, hs]; rfl
    have f0 : w.frozen? ⟨s, 2, none⟩ = false := by rw [World.frozen?, hs]; rfl
    have HS := Lib.hid hs
    rw [h] at HP
    clear hs
    go_enter Tryd.func58, Tryd.ntmps58
    go_region
    go_end0
    refine ⟨rfl, ?_, grown_trans (grown_setCell w s 2 _) (drew_grown _ _)⟩
    rw [HP.out, HO.out 0 (by omega) (by omega) , HO.out 1 (by omega) (by omega) , HO.out 3 (by omega) (by omega)]
    exact heap_setCell_at w s 2 _ 68 (0, 0) _ HS.out
  · have hd : (b : Int) / 64 = 3 := by omega
    have c0 : w.cell? ⟨s, 3, none⟩ = some (.int .u64 (wd S 3)) := by rw [World.cell?, hs]; rfl
    have f0 : w.frozen? ⟨s, 3, none⟩ = false := by rw [World.frozen?, hs]; rfl
    have HS := Lib.hid hs
    rw [h] at HP
    clear hs
    go_enter Tryd.func58, Tryd.ntmps58
    go_region
    go_end0
    refine ⟨rfl, ?_, grown_trans (grown_setCell w s 3 _) (drew_grown _ _)⟩
    rw [HP.out, HO.out 0 (by omega) (by omega) , HO.out 1 (by omega) (by omega) , HO.out 2 (by omega) (by omega)]
    exact heap_setCell_at w s 3 _ 68 (0, 0) _ HS.out
end Go.Proofs.YtafmhhhboihdfaaDoor
