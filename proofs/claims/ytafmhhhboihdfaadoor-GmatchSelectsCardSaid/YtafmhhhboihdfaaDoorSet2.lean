/-
  Sets of bytes: set.Of, set.Range, glob.one. Conditions: those that each theorem names.
-/
import Derived.Test.YtafmhhhboihdfaaDoorSet
import Derived.Handy
namespace Go.Proofs.YtafmhhhboihdfaaDoor
open Go.RowKit
set_option linter.unusedVariables false
def iv (c : UInt8) : Int := c.toNat
theorem iv_lo (c : UInt8) : 0 ≤ iv c := by unfold iv; omega
theorem iv_hi (c : UInt8) : iv c ≤ 255 := by unfold iv; have := c.toNat_lt; omega
theorem iv_inj {a b : UInt8} (h : iv a = iv b) : a = b := by unfold iv at h; exact UInt8.toNat_inj.1 (by omega)
/-- the set of the bytes that pass a test -/
def bset (p : Nat → Bool) : BitVec 256 := (BitVec.ofBoolListLE ((List.range 256).map p)).cast (by simp)
theorem bset_get (p : Nat → Bool) (i : Nat) : (bset p).getLsbD i = (decide (i < 256) && p i) := by
  unfold bset
  rw [BitVec.getLsbD_cast, BitVec.getLsbD_ofBoolListLE]
  by_cases h : i < 256
  · simp [List.getD_eq_getElem?_getD, h]
  · simp [List.getD_eq_getElem?_getD, h]
theorem bset_eq {S : BitVec 256} {p : Nat → Bool} (h : ∀ i, i < 256 → S.getLsbD i = p i) : S = bset p := by
  apply BitVec.eq_of_getLsbD_eq; intro i hi
  rw [bset_get, h i hi]; simp [hi]
def rangeS (lo hi : Nat) : BitVec 256 := bset fun i => decide (lo ≤ i ∧ i ≤ hi)
theorem range_more (lo b : Nat) (h : lo ≤ b) : bset (fun i => decide (lo ≤ i ∧ i < b)) ||| bit b = bset (fun i => decide (lo ≤ i ∧ i < b + 1)) := by
  apply bset_eq; intro i hi
  rw [BitVec.getLsbD_or, bset_get, bit_get _ _ hi, Bool.eq_iff_iff]
  simp; omega
theorem range_none (lo b : Nat) (h : b ≤ lo) : 0 = bset (fun i => decide (lo ≤ i ∧ i < b)) := by
  apply bset_eq; intro i hi
  simp; omega
theorem setat_alloc (w : World) : SetAt (w.alloc (.cells #[.int .u64 0, .int .u64 0, .int .u64 0, .int .u64 0] 68)) w.heap.size 0 := by
  unfold SetAt
  rw [heap_alloc_new]
  rfl
theorem SetAt.kept {w w' : World} {s : Nat} {S : BitVec 256} {row : Option Nat} (h : SetAt w s S) (g : w.grownBy w' row) (hr : row ≠ some s) : SetAt w' s S := by
  have hs : s < w.heap.size := (Array.getElem?_eq_some_iff.1 h).1
  exact (g.block s hs (fun e => hr e.symm)).trans h
theorem SetAt.cells {w : World} {s : Nat} {S : BitVec 256} (h : SetAt w s S) :
    w.cell? ⟨s, 0, none⟩ = some (.int .u64 (wd S 0)) ∧ w.cell? ⟨s, 1, none⟩ = some (.int .u64 (wd S 1)) ∧ w.cell? ⟨s, 2, none⟩ = some (.int .u64 (wd S 2)) ∧ w.cell? ⟨s, 3, none⟩ = some (.int .u64 (wd S 3)) ∧
    w.frozen? ⟨s, 0, none⟩ = false ∧ w.frozen? ⟨s, 1, none⟩ = false ∧ w.frozen? ⟨s, 2, none⟩ = false ∧ w.frozen? ⟨s, 3, none⟩ = false := by
  unfold SetAt wv at h
  refine ⟨?_, ?_, ?_, ?_, ?_, ?_, ?_, ?_⟩
  all_goals first
    | (rw [World.cell?, h]; rfl)
    | (rw [World.frozen?, h]; rfl)
def put4 (w : World) (s : Nat) (S : BitVec 256) : World :=
  (((w.setCell ⟨s, 0, none⟩ (.int .u64 (wd S 0))).setCell ⟨s, 1, none⟩ (.int .u64 (wd S 1))).setCell ⟨s, 2, none⟩ (.int .u64 (wd S 2))).setCell ⟨s, 3, none⟩ (.int .u64 (wd S 3))
theorem put4_at {w : World} {s : Nat} {S0 : BitVec 256} (S : BitVec 256) (h : SetAt w s S0) : SetAt (put4 w s S) s S := by
  unfold put4
  exact heap_setCell_at _ s 3 _ 68 (0, 0) _ (heap_setCell_at _ s 2 _ 68 (0, 0) _ (heap_setCell_at _ s 1 _ 68 (0, 0) _ (heap_setCell_at w s 0 _ 68 (0, 0) _ h)))
theorem put4_grown (w : World) (s : Nat) (S : BitVec 256) : w.grownBy (put4 w s S) (some s) :=
  grown_trans (grown_trans (grown_trans (grown_setCell _ s 0 _) (grown_setCell _ s 1 _)) (grown_setCell _ s 2 _)) (grown_setCell _ s 3 _)
set_option maxHeartbeats 800000 in
theorem range_any (lo hi : Nat) (w : World) (h0 : lo ≤ 255) (h1 : hi ≤ 255) :
    Calls Tryd.prog 90 #[.int .u8 lo, .int .u8 hi] w fun e w' => e = .returned (setV (rangeS lo hi)) ∧ Below w.heap.size w w' := by
  have HP := Lib.hid (fun S b s w hb hs => put_any S b s w hb hs)
  go_enter Tryd.func90, Tryd.ntmps90
  go_wp2_with fail
  go_loopw [6] (fun a wr => ∃ (b : Nat), a = .int .i64 b ∧ lo ≤ b ∧ b ≤ 256 ∧ (b ≤ hi + 1 ∨ b = lo) ∧ SetAt wr (w.heap.size + 1) (bset fun i => decide (lo ≤ i ∧ i < b)) ∧ SetAt wr w.heap.size 0 ∧ Below w.heap.size w wr) (fun a _ => 256 - (intOf a).toNat)
  case atStart =>
    have h1 := setat_alloc w
    refine ⟨lo, rfl, Nat.le_refl _, by omega, .inr rfl, ?_, ?_, ((Below.refl _ _).alloc (Nat.le_refl _) _).alloc (by simp) _⟩
    · rw [← range_none lo lo (Nat.le_refl _)]
      have h2 := setat_alloc (w.alloc (.cells #[.int .u64 0, .int .u64 0, .int .u64 0, .int .u64 0] 68))
      simpa using h2
    · exact h1.kept (World.grownBy_alloc _ _ none) (by simp)
  case round =>
    obtain ⟨b, rfl, hb1, hb2, hb3, hs1, hs0, hbel⟩ := hrel
    by_cases hbh : b ≤ hi
    · have HC := Lib.hid (HP.out _ b _ wr (by omega) hs1)
      have hbI : (b : Int) ≤ (hi : Int) := by omega
      have HB := Lib.hid hbel
      have HS0 := Lib.hid hs0
      clear hbel hs1 hs0
      go_wp2_with fail
      refine HC.out.mono ?_; rintro e w' ⟨rfl, hs1, hg⟩
      have hs1 := Lib.hid hs1
      have hg := Lib.hid hg
      go_wp2_with fail
      go_roundw
      case rel =>
        refine ⟨b + 1, congrArg (Value.int .i64) (by omega), by omega, by omega, by omega, ?_, HS0.out.kept hg.out (by simp), HB.out.grown hg.out HB.out.size (fun r hr => by cases hr; omega)⟩
        rw [← range_more lo b hb1]; exact hs1.out
      case measure => simp [intOf]; omega
    · have hbI : ¬ (b : Int) ≤ (hi : Int) := by omega
      have HB := Lib.hid hbel
      have HS0 := Lib.hid hs0
      obtain ⟨p0, p1, p2, p3, -⟩ := hs1.cells
      have HE := Lib.hid (show (bset fun i => decide (lo ≤ i ∧ i < b)) = rangeS lo hi from bset_eq fun i hi => by rw [bset_get, Bool.eq_iff_iff]; simp; omega)
      rw [HE.out] at p0 p1 p2 p3
      obtain ⟨o0, o1, o2, o3, f0, f1, f2, f3⟩ := hs0.cells
      clear hbel hs1 hs0 HE
      go_wp2_with fail
      have HZ := Lib.hid (put4_at (rangeS lo hi) HS0.out)
      have HG := Lib.hid (put4_grown wr w.heap.size (rangeS lo hi))
      change bodyPost _ _ _ _ _ (put4 wr w.heap.size (rangeS lo hi))
      generalize put4 wr w.heap.size (rangeS lo hi) = W2 at *
      obtain ⟨p0, p1, p2, p3, -⟩ := HZ.out.cells
      (try simp only [Exit.inBlock, Exit.then])
      refine bodyPost_ret (v := setV (rangeS lo hi)) (by simp [results, Tryd.results90, go_sem, p0, p1, p2, p3, setV, wv]) rfl ?_
      exact ⟨rfl, HB.out.grown HG.out HB.out.size (fun r hr => by cases hr; omega)⟩
end Go.Proofs.YtafmhhhboihdfaaDoor
