/-
  Sets of bytes: set.Not, set.Union. Conditions: those that each theorem names.
-/
import Derived.Test.YtafmhhhboihdfaaDoorSet3
import Derived.Laws.Bits64
namespace Go.Proofs.YtafmhhhboihdfaaDoor
open Go.RowKit
set_option linter.unusedVariables false
def WAt (w : World) (s : Nat) (f : Nat → Nat) : Prop := w.heap[s]? = some (.cells #[.int .u64 (f 0 : Nat), .int .u64 (f 1 : Nat), .int .u64 (f 2 : Nat), .int .u64 (f 3 : Nat)] 68)
/-- the first words of one, the others of another -/
def mix (j : Nat) (f g : Nat → Nat) (k : Nat) : Nat := if k < j then f k else g k
theorem WAt.set {w : World} {s : Nat} {S : BitVec 256} (h : WAt w s (wd S)) : SetAt w s S := h
theorem not_word (S : BitVec 256) (k : Nat) (hk : k < 4) : bits .xor .u64 (if IntKind.u64.signed = true then -1 else IntKind.u64.max) (wd S k : Int) = wd (~~~S) k := by
  have h := bits_xor_u64_nat 18446744073709551615 (wd S k) (by omega) (wd_lt S k)
  rw [show (if IntKind.u64.signed = true then -1 else IntKind.u64.max) = ((18446744073709551615 : Nat) : Int) by decide, h]
  congr 1
  apply Nat.eq_of_testBit_eq; intro i
  rw [Nat.testBit_xor, show 18446744073709551615 = 2 ^ 64 - 1 from rfl, Nat.testBit_two_pow_sub_one]
  by_cases hi : i < 64
  · rw [wd_test _ _ _ hi, wd_test _ _ _ hi, BitVec.getLsbD_not]
    simp [hi, show 64 * k + i < 256 by omega]
  · rw [Nat.testBit_lt_two_pow (Nat.lt_of_lt_of_le (wd_lt S k) (Nat.pow_le_pow_right (by omega) (by omega))), Nat.testBit_lt_two_pow (Nat.lt_of_lt_of_le (wd_lt (~~~S) k) (Nat.pow_le_pow_right (by omega) (by omega)))]
    simp [hi]
theorem wat_step {w : World} {s k : Nat} {f g : Nat → Nat} (x : Int) (h : WAt w s (mix k f g)) (hk : k < 4) (hx : x = f k) : WAt (w.setCell ⟨s, k, none⟩ (.int .u64 x)) s (mix (k + 1) f g) := by
  have := heap_setCell_at w s k _ 68 (0, 0) (.int .u64 x) h
  unfold WAt
  rw [this, hx]
  rcases (show k = 0 ∨ k = 1 ∨ k = 2 ∨ k = 3 by omega) with rfl | rfl | rfl | rfl <;> rfl

set_option maxRecDepth 100000 in
set_option maxHeartbeats 800000 in
theorem snot_any (S : BitVec 256) (w : World) :
    Calls Tryd.prog 81 #[setV S] w fun e w' => e = .returned (setV (~~~S)) ∧ Below w.heap.size w w' := by
  have HN := Lib.hid (not_word S)
  generalize hT : ~~~S = T
  rw [hT] at HN
  clear hT
  unfold setV wv
  go_enter Tryd.func81, Tryd.ntmps81
  go_wp2_with fail
  go_loopw [4] (fun a wr => ∃ (j : Nat), a = .int .i64 j ∧ j ≤ 4 ∧ WAt wr w.heap.size (mix j (wd T) (wd S)) ∧ SetAt wr (w.heap.size + 1) 0 ∧ Below w.heap.size w wr) (fun a _ => 4 - (intOf a).toNat)
  case atStart =>
    refine ⟨0, rfl, by omega, ?_, ?_, ((Below.refl _ _).alloc (Nat.le_refl _) _).alloc (by simp) _⟩
    · have h1 := heap_alloc_new w (.cells #[.int .u64 (wd S 0), .int .u64 (wd S 1), .int .u64 (wd S 2), .int .u64 (wd S 3)] 68)
      exact ((World.grownBy_alloc _ _ none).block w.heap.size (by simp) (by simp)).trans h1
    · have h2 := setat_alloc (w.alloc (.cells #[.int .u64 (wd S 0), .int .u64 (wd S 1), .int .u64 (wd S 2), .int .u64 (wd S 3)] 68))
      simpa using h2
  case round =>
    obtain ⟨j, rfl, hj, hs, hs0, hbel⟩ := hrel
    have HB := Lib.hid hbel
    have HS0 := Lib.hid hs0
    clear hbel hs0
    unfold WAt at hs
    rcases (show j = 0 ∨ j = 1 ∨ j = 2 ∨ j = 3 ∨ j = 4 by omega) with rfl | rfl | rfl | rfl | rfl
    · have c0 : wr.cell? ⟨w.heap.size, 0, none⟩ = some (.int .u64 (wd S 0)) := by rw [World.cell?, hs]; rfl
      have f0 : wr.frozen? ⟨w.heap.size, 0, none⟩ = false := by rw [World.frozen?, hs]; rfl
      have HS := Lib.hid hs
      clear hs
      go_wp2_with fail
      go_roundw
      case rel =>
        exact ⟨0 + 1, rfl, by omega, wat_step _ HS.out (by omega) (HN.out 0 (by omega)), HS0.out.kept (grown_setCell _ _ _ _) (by simp), HB.out.setCell (Nat.le_refl _) _⟩
      case measure => simp [intOf]
    · have c0 : wr.cell? ⟨w.heap.size, 1, none⟩ = some (.int .u64 (wd S 1)) := by rw [World.cell?, hs]; rfl
      have f0 : wr.frozen? ⟨w.heap.size, 1, none⟩ = false := by rw [World.frozen?, hs]; rfl
      have HS := Lib.hid hs
      clear hs
      go_wp2_with fail
      go_roundw
      case rel =>
        exact ⟨1 + 1, rfl, by omega, wat_step _ HS.out (by omega) (HN.out 1 (by omega)), HS0.out.kept (grown_setCell _ _ _ _) (by simp), HB.out.setCell (Nat.le_refl _) _⟩
      case measure => simp [intOf]
    · have c0 : wr.cell? ⟨w.heap.size, 2, none⟩ = some (.int .u64 (wd S 2)) := by rw [World.cell?, hs]; rfl
      have f0 : wr.frozen? ⟨w.heap.size, 2, none⟩ = false := by rw [World.frozen?, hs]; rfl
      have HS := Lib.hid hs
      clear hs
      go_wp2_with fail
      go_roundw
      case rel =>
        exact ⟨2 + 1, rfl, by omega, wat_step _ HS.out (by omega) (HN.out 2 (by omega)), HS0.out.kept (grown_setCell _ _ _ _) (by simp), HB.out.setCell (Nat.le_refl _) _⟩
      case measure => simp [intOf]
    · have c0 : wr.cell? ⟨w.heap.size, 3, none⟩ = some (.int .u64 (wd S 3)) := by rw [World.cell?, hs]; rfl
      have f0 : wr.frozen? ⟨w.heap.size, 3, none⟩ = false := by rw [World.frozen?, hs]; rfl
      have HS := Lib.hid hs
      clear hs
      go_wp2_with fail
      go_roundw
      case rel =>
        exact ⟨3 + 1, rfl, by omega, wat_step _ HS.out (by omega) (HN.out 3 (by omega)), HS0.out.kept (grown_setCell _ _ _ _) (by simp), HB.out.setCell (Nat.le_refl _) _⟩
      case measure => simp [intOf]
    · obtain ⟨p0, p1, p2, p3, -⟩ := (show SetAt wr w.heap.size T from hs).cells
      obtain ⟨o0, o1, o2, o3, f0, f1, f2, f3⟩ := HS0.out.cells
      clear hs
      go_wp2_with fail
      have HZ := Lib.hid (put4_at T HS0.out)
      have HG := Lib.hid (put4_grown wr (w.heap.size + 1) T)
      change bodyPost _ _ _ _ _ (put4 wr (w.heap.size + 1) T)
      generalize put4 wr (w.heap.size + 1) T = W2 at *
      obtain ⟨p0, p1, p2, p3, -⟩ := HZ.out.cells
      (try simp only [Exit.inBlock, Exit.then])
      refine bodyPost_ret (v := .agg #[.int .u64 (wd T 0), .int .u64 (wd T 1), .int .u64 (wd T 2), .int .u64 (wd T 3)]) (by simp [results, Tryd.results81, go_sem, p0, p1, p2, p3]) rfl ?_
      exact ⟨rfl, HB.out.grown HG.out HB.out.size (fun r hr => by cases hr; omega)⟩

set_option maxRecDepth 100000 in
set_option maxHeartbeats 800000 in
theorem rnot_any (S : BitVec 256) (w : World) :
    Calls Tryd.prog 53 #[setV S] w fun e w' => e = .returned (setV (~~~S)) ∧ Below w.heap.size w w' := by
  have HN := Lib.hid (not_word S)
  generalize hT : ~~~S = T
  rw [hT] at HN
  clear hT
  unfold setV wv
  go_enter Tryd.func53, Tryd.ntmps53
  go_wp2_with fail
  go_loopw [4] (fun a wr => ∃ (j : Nat), a = .int .i64 j ∧ j ≤ 4 ∧ WAt wr w.heap.size (mix j (wd T) (wd S)) ∧ SetAt wr (w.heap.size + 1) 0 ∧ Below w.heap.size w wr) (fun a _ => 4 - (intOf a).toNat)
  case atStart =>
    refine ⟨0, rfl, by omega, ?_, ?_, ((Below.refl _ _).alloc (Nat.le_refl _) _).alloc (by simp) _⟩
    · have h1 := heap_alloc_new w (.cells #[.int .u64 (wd S 0), .int .u64 (wd S 1), .int .u64 (wd S 2), .int .u64 (wd S 3)] 68)
      exact ((World.grownBy_alloc _ _ none).block w.heap.size (by simp) (by simp)).trans h1
    · have h2 := setat_alloc (w.alloc (.cells #[.int .u64 (wd S 0), .int .u64 (wd S 1), .int .u64 (wd S 2), .int .u64 (wd S 3)] 68))
      simpa using h2
  case round =>
    obtain ⟨j, rfl, hj, hs, hs0, hbel⟩ := hrel
    have HB := Lib.hid hbel
    have HS0 := Lib.hid hs0
    clear hbel hs0
    unfold WAt at hs
    rcases (show j = 0 ∨ j = 1 ∨ j = 2 ∨ j = 3 ∨ j = 4 by omega) with rfl | rfl | rfl | rfl | rfl
    · have c0 : wr.cell? ⟨w.heap.size, 0, none⟩ = some (.int .u64 (wd S 0)) := by rw [World.cell?, hs]; rfl
      have f0 : wr.frozen? ⟨w.heap.size, 0, none⟩ = false := by rw [World.frozen?, hs]; rfl
      have HS := Lib.hid hs
      clear hs
      go_wp2_with fail
      go_roundw
      case rel =>
        exact ⟨0 + 1, rfl, by omega, wat_step _ HS.out (by omega) (HN.out 0 (by omega)), HS0.out.kept (grown_setCell _ _ _ _) (by simp), HB.out.setCell (Nat.le_refl _) _⟩
      case measure => simp [intOf]
    · have c0 : wr.cell? ⟨w.heap.size, 1, none⟩ = some (.int .u64 (wd S 1)) := by rw [World.cell?, hs]; rfl
      have f0 : wr.frozen? ⟨w.heap.size, 1, none⟩ = false := by rw [World.frozen?, hs]; rfl
      have HS := Lib.hid hs
      clear hs
      go_wp2_with fail
      go_roundw
      case rel =>
        exact ⟨1 + 1, rfl, by omega, wat_step _ HS.out (by omega) (HN.out 1 (by omega)), HS0.out.kept (grown_setCell _ _ _ _) (by simp), HB.out.setCell (Nat.le_refl _) _⟩
      case measure => simp [intOf]
    · have c0 : wr.cell? ⟨w.heap.size, 2, none⟩ = some (.int .u64 (wd S 2)) := by rw [World.cell?, hs]; rfl
      have f0 : wr.frozen? ⟨w.heap.size, 2, none⟩ = false := by rw [World.frozen?, hs]; rfl
      have HS := Lib.hid hs
      clear hs
      go_wp2_with fail
      go_roundw
      case rel =>
        exact ⟨2 + 1, rfl, by omega, wat_step _ HS.out (by omega) (HN.out 2 (by omega)), HS0.out.kept (grown_setCell _ _ _ _) (by simp), HB.out.setCell (Nat.le_refl _) _⟩
      case measure => simp [intOf]
    · have c0 : wr.cell? ⟨w.heap.size, 3, none⟩ = some (.int .u64 (wd S 3)) := by rw [World.cell?, hs]; rfl
      have f0 : wr.frozen? ⟨w.heap.size, 3, none⟩ = false := by rw [World.frozen?, hs]; rfl
      have HS := Lib.hid hs
      clear hs
      go_wp2_with fail
      go_roundw
      case rel =>
        exact ⟨3 + 1, rfl, by omega, wat_step _ HS.out (by omega) (HN.out 3 (by omega)), HS0.out.kept (grown_setCell _ _ _ _) (by simp), HB.out.setCell (Nat.le_refl _) _⟩
      case measure => simp [intOf]
    · obtain ⟨p0, p1, p2, p3, -⟩ := (show SetAt wr w.heap.size T from hs).cells
      obtain ⟨o0, o1, o2, o3, f0, f1, f2, f3⟩ := HS0.out.cells
      clear hs
      go_wp2_with fail
      have HZ := Lib.hid (put4_at T HS0.out)
      have HG := Lib.hid (put4_grown wr (w.heap.size + 1) T)
      change bodyPost _ _ _ _ _ (put4 wr (w.heap.size + 1) T)
      generalize put4 wr (w.heap.size + 1) T = W2 at *
      obtain ⟨p0, p1, p2, p3, -⟩ := HZ.out.cells
      (try simp only [Exit.inBlock, Exit.then])
      refine bodyPost_ret (v := .agg #[.int .u64 (wd T 0), .int .u64 (wd T 1), .int .u64 (wd T 2), .int .u64 (wd T 3)]) (by simp [results, Tryd.results53, go_sem, p0, p1, p2, p3]) rfl ?_
      exact ⟨rfl, HB.out.grown HG.out HB.out.size (fun r hr => by cases hr; omega)⟩

end Go.Proofs.YtafmhhhboihdfaaDoor
