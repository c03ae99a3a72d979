/-
  Sets of bytes: the document's Range. Conditions: those that each theorem names.
-/
import Derived.Test.YtafmhhhboihdfaaDoorSet5
namespace Go.Proofs.YtafmhhhboihdfaaDoor
open Go.RowKit
set_option linter.unusedVariables false
def rg (lo hi j : Nat) : BitVec 256 := bset fun i => decide (lo ≤ i ∧ i ≤ hi ∧ i < j)
theorem rg_in {lo hi j : Nat} (h : lo ≤ j ∧ j ≤ hi) : rg lo hi j ||| bit j = rg lo hi (j + 1) := by
  apply bset_eq; intro i hi2
  unfold rg
  rw [BitVec.getLsbD_or, bset_get, bit_get _ _ hi2, Bool.eq_iff_iff]
  simp; omega
theorem rg_out {lo hi j : Nat} (h : ¬ (lo ≤ j ∧ j ≤ hi)) : rg lo hi j = rg lo hi (j + 1) := by
  apply bset_eq; intro i hi2
  unfold rg
  rw [bset_get, Bool.eq_iff_iff]
  simp; omega
theorem rg_zero (lo hi : Nat) : 0 = rg lo hi 0 := by
  apply bset_eq; intro i hi2
  simp
theorem rg_all {lo hi : Nat} (h : hi ≤ 255) : rg lo hi 256 = rangeS lo hi := by
  apply bset_eq; intro i hi2
  unfold rg
  rw [bset_get, Bool.eq_iff_iff]
  simp; omega
theorem SetAt.lt {w : World} {s : Nat} {S : BitVec 256} (h : SetAt w s S) : s < w.heap.size := (Array.getElem?_eq_some_iff.1 h).1
theorem SetAt.below {w w' : World} {B s : Nat} {S : BitVec 256} (h : SetAt w s S) (g : Below B w w') (hs : s < B) : SetAt w' s S := (g.block s hs).trans h
set_option maxRecDepth 100000 in
set_option maxHeartbeats 800000 in
theorem rrange_any (lo hi : Nat) (w : World) (h0 : lo ≤ 255) (h1 : hi ≤ 255) :
    Calls Tryd.prog 56 #[.int .u8 lo, .int .u8 hi] w fun e w' => e = .returned (setV (rangeS lo hi)) ∧ Below w.heap.size w w' := by
  have HP := Lib.hid (fun S b w hb => radd_any S b w hb)
  have HR := Lib.hid (rg_all (lo := lo) h1)
  generalize rangeS lo hi = R at *
  go_enter Tryd.func56, Tryd.ntmps56
  go_wp2_with fail
  go_loopw [8] (fun a wr => ∃ (j : Nat), a = .int .i64 j ∧ j ≤ 256 ∧ SetAt wr (w.heap.size + 1) (rg lo hi j) ∧ SetAt wr w.heap.size 0 ∧ Below w.heap.size w wr) (fun a _ => 256 - (intOf a).toNat)
  case atStart =>
    have h1 := setat_alloc w
    refine ⟨0, rfl, by omega, ?_, ?_, ((Below.refl _ _).alloc (Nat.le_refl _) _).alloc (by simp) _⟩
    · rw [← rg_zero]
      have h2 := setat_alloc (w.alloc (.cells #[.int .u64 0, .int .u64 0, .int .u64 0, .int .u64 0] 68))
      simpa using h2
    · exact h1.kept (World.grownBy_alloc _ _ none) (by simp)
  case round =>
    obtain ⟨j, rfl, hj, hs1, hs0, hbel⟩ := hrel
    have HB := Lib.hid hbel
    have HS0 := Lib.hid hs0
    have HS1 := Lib.hid hs1
    obtain ⟨p0, p1, p2, p3, -⟩ := hs1.cells
    clear hbel hs1 hs0
    by_cases hlt : j < 256
    · have hltI : (j : Int) < 256 := by omega
      by_cases hin : lo ≤ j ∧ j ≤ hi
      · obtain ⟨ha, hb⟩ := hin
        have haI : (lo : Int) ≤ j := by omega
        have hbI : (j : Int) ≤ hi := by omega
        have HC := Lib.hid (HP.out (rg lo hi j) j wr (by omega))
        rw [rg_in ⟨ha, hb⟩] at HC
        unfold setV wv at HC
        go_wp2_with fail
        refine HC.out.mono ?_; rintro e w' ⟨rfl, hbel⟩
        have HS1' := Lib.hid (HS1.out.below hbel HS1.out.lt)
        have HS0' := Lib.hid (HS0.out.below hbel HS0.out.lt)
        have HB' := Lib.hid (HB.out.trans (hbel.mono HB.out.size))
        obtain ⟨o0, o1, o2, o3, f0, f1, f2, f3⟩ := HS1'.out.cells
        clear hbel
        go_wp2_with fail
        have HZ := Lib.hid (put4_at (rg lo hi (j + 1)) HS1'.out)
        have HG := Lib.hid (put4_grown w' (w.heap.size + 1) (rg lo hi (j + 1)))
        unfold put4 at HZ HG
        go_roundw
        case rel =>
          exact ⟨j + 1, congrArg (Value.int .i64) (by omega), by omega, HZ.out, HS0'.out.kept HG.out (by simp), HB'.out.grown HG.out HB'.out.size (fun r hr => by cases hr; omega)⟩
        case measure => simp [intOf]; omega
      · have HE := Lib.hid (rg_out hin)
        by_cases ha : lo ≤ j
        · have haI : (lo : Int) ≤ j := by omega
          have hbI : ¬ (j : Int) ≤ hi := by omega
          go_wp2_with fail
          go_roundw
          case rel => exact ⟨j + 1, congrArg (Value.int .i64) (by omega), by omega, by rw [← HE.out]; exact HS1.out, HS0.out, HB.out⟩
          case measure => simp [intOf]; omega
        · have haI : ¬ (lo : Int) ≤ j := by omega
          go_wp2_with fail
          go_roundw
          case rel => exact ⟨j + 1, congrArg (Value.int .i64) (by omega), by omega, by rw [← HE.out]; exact HS1.out, HS0.out, HB.out⟩
          case measure => simp [intOf]; omega
    · have hltI : ¬ (j : Int) < 256 := by omega
      obtain rfl : j = 256 := by omega
      rw [HR.out] at p0 p1 p2 p3
      obtain ⟨o0, o1, o2, o3, f0, f1, f2, f3⟩ := HS0.out.cells
      go_wp2_with fail
      have HZ := Lib.hid (put4_at R HS0.out)
      have HG := Lib.hid (put4_grown wr w.heap.size R)
      change bodyPost _ _ _ _ _ (put4 wr w.heap.size R)
      generalize put4 wr w.heap.size R = W2 at *
      obtain ⟨p0, p1, p2, p3, -⟩ := HZ.out.cells
      (try simp only [Exit.inBlock, Exit.then])
      refine bodyPost_ret (v := setV R) (by simp [results, Tryd.results56, go_sem, p0, p1, p2, p3, setV, wv]) rfl ?_
      exact ⟨rfl, HB.out.grown HG.out HB.out.size (fun r hr => by cases hr; omega)⟩
end Go.Proofs.YtafmhhhboihdfaaDoor
