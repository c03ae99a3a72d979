/-
  Sets of bytes: the document's Or, Add, Has. Conditions: those that each theorem names.
-/
import Derived.Test.YtafmhhhboihdfaaDoorSet4
namespace Go.Proofs.YtafmhhhboihdfaaDoor
open Go.RowKit
set_option linter.unusedVariables false
theorem or_word (S T : BitVec 256) (k : Nat) : bits .or .u64 (wd S k : Int) (wd T k : Int) = wd (S ||| T) k := by
  rw [bits_or_u64_nat _ _ (wd_lt S k) (wd_lt T k), wd_or]
set_option maxRecDepth 100000 in
set_option maxHeartbeats 800000 in
theorem ror_any (S T : BitVec 256) (w : World) :
    Calls Tryd.prog 55 #[setV S, setV T] w fun e w' => e = .returned (setV (S ||| T)) ∧ Below w.heap.size w w' := by
  have HN := Lib.hid (or_word S T)
  generalize hU : S ||| T = U
  rw [hU] at HN
  clear hU
  unfold setV wv
  go_enter Tryd.func55, Tryd.ntmps55
  go_wp2_with fail
  go_loopw [6] (fun a wr => ∃ (j : Nat), a = .int .i64 j ∧ j ≤ 4 ∧ WAt wr w.heap.size (mix j (wd U) (wd S)) ∧ SetAt wr (w.heap.size + 1) T ∧ SetAt wr (w.heap.size + 2) 0 ∧ Below w.heap.size w wr) (fun a _ => 4 - (intOf a).toNat)
  case atStart =>
    have h1 := heap_alloc_new w (.cells #[.int .u64 (wd S 0), .int .u64 (wd S 1), .int .u64 (wd S 2), .int .u64 (wd S 3)] 68)
    have h2 := heap_alloc_new (w.alloc (.cells #[.int .u64 (wd S 0), .int .u64 (wd S 1), .int .u64 (wd S 2), .int .u64 (wd S 3)] 68)) (.cells #[.int .u64 (wd T 0), .int .u64 (wd T 1), .int .u64 (wd T 2), .int .u64 (wd T 3)] 68)
    refine ⟨0, rfl, by omega, ?_, ?_, ?_, (((Below.refl _ _).alloc (Nat.le_refl _) _).alloc (by simp) _).alloc (by simp; omega) _⟩
    · exact ((World.grownBy_alloc _ _ none).block w.heap.size (by simp; omega) (by simp)).trans (((World.grownBy_alloc _ _ none).block w.heap.size (by simp) (by simp)).trans h1)
    · unfold SetAt
      refine ((World.grownBy_alloc _ _ none).block (w.heap.size + 1) (by simp) (by simp)).trans ?_
      rw [show w.heap.size + 1 = (w.alloc (.cells #[.int .u64 (wd S 0), .int .u64 (wd S 1), .int .u64 (wd S 2), .int .u64 (wd S 3)] 68)).heap.size by simp]
      exact h2
    · have h3 := setat_alloc ((w.alloc (.cells #[.int .u64 (wd S 0), .int .u64 (wd S 1), .int .u64 (wd S 2), .int .u64 (wd S 3)] 68)).alloc (.cells #[.int .u64 (wd T 0), .int .u64 (wd T 1), .int .u64 (wd T 2), .int .u64 (wd T 3)] 68))
      simpa using h3
  case round =>
    obtain ⟨j, rfl, hj, hs, hst, hs0, hbel⟩ := hrel
    have HB := Lib.hid hbel
    have HS0 := Lib.hid hs0
    have HT := Lib.hid hst
    clear hbel hs0 hst
    unfold WAt at hs
    rcases (show j = 0 ∨ j = 1 ∨ j = 2 ∨ j = 3 ∨ j = 4 by omega) with rfl | rfl | rfl | rfl | rfl
    · have c0 : wr.cell? ⟨w.heap.size, 0, none⟩ = some (.int .u64 (wd S 0)) := by rw [World.cell?, hs]; rfl
      have f0 : wr.frozen? ⟨w.heap.size, 0, none⟩ = false := by rw [World.frozen?, hs]; rfl
      obtain ⟨t0, t1, t2, t3, -⟩ := HT.out.cells
      have HS := Lib.hid hs
      clear hs
      go_wp2_with fail
      go_region
      go_wp2_with fail
      go_roundw
      case rel =>
        exact ⟨0 + 1, rfl, by omega, wat_step _ HS.out (by omega) (HN.out 0), HT.out.kept (grown_trans (grown_setCell _ _ _ _) (drew_grown _ _)) (by simp), HS0.out.kept (grown_trans (grown_setCell _ _ _ _) (drew_grown _ _)) (by simp), (HB.out.setCell (Nat.le_refl _) _).drew⟩
      case measure => simp [intOf]
    · have c0 : wr.cell? ⟨w.heap.size, 1, none⟩ = some (.int .u64 (wd S 1)) := by rw [World.cell?, hs]; rfl
      have f0 : wr.frozen? ⟨w.heap.size, 1, none⟩ = false := by rw [World.frozen?, hs]; rfl
      obtain ⟨t0, t1, t2, t3, -⟩ := HT.out.cells
      have HS := Lib.hid hs
      clear hs
      go_wp2_with fail
      go_region
      go_wp2_with fail
      go_roundw
      case rel =>
        exact ⟨1 + 1, rfl, by omega, wat_step _ HS.out (by omega) (HN.out 1), HT.out.kept (grown_trans (grown_setCell _ _ _ _) (drew_grown _ _)) (by simp), HS0.out.kept (grown_trans (grown_setCell _ _ _ _) (drew_grown _ _)) (by simp), (HB.out.setCell (Nat.le_refl _) _).drew⟩
      case measure => simp [intOf]
    · have c0 : wr.cell? ⟨w.heap.size, 2, none⟩ = some (.int .u64 (wd S 2)) := by rw [World.cell?, hs]; rfl
      have f0 : wr.frozen? ⟨w.heap.size, 2, none⟩ = false := by rw [World.frozen?, hs]; rfl
      obtain ⟨t0, t1, t2, t3, -⟩ := HT.out.cells
      have HS := Lib.hid hs
      clear hs
      go_wp2_with fail
      go_region
      go_wp2_with fail
      go_roundw
      case rel =>
        exact ⟨2 + 1, rfl, by omega, wat_step _ HS.out (by omega) (HN.out 2), HT.out.kept (grown_trans (grown_setCell _ _ _ _) (drew_grown _ _)) (by simp), HS0.out.kept (grown_trans (grown_setCell _ _ _ _) (drew_grown _ _)) (by simp), (HB.out.setCell (Nat.le_refl _) _).drew⟩
      case measure => simp [intOf]
    · have c0 : wr.cell? ⟨w.heap.size, 3, none⟩ = some (.int .u64 (wd S 3)) := by rw [World.cell?, hs]; rfl
      have f0 : wr.frozen? ⟨w.heap.size, 3, none⟩ = false := by rw [World.frozen?, hs]; rfl
      obtain ⟨t0, t1, t2, t3, -⟩ := HT.out.cells
      have HS := Lib.hid hs
      clear hs
      go_wp2_with fail
      go_region
      go_wp2_with fail
      go_roundw
      case rel =>
        exact ⟨3 + 1, rfl, by omega, wat_step _ HS.out (by omega) (HN.out 3), HT.out.kept (grown_trans (grown_setCell _ _ _ _) (drew_grown _ _)) (by simp), HS0.out.kept (grown_trans (grown_setCell _ _ _ _) (drew_grown _ _)) (by simp), (HB.out.setCell (Nat.le_refl _) _).drew⟩
      case measure => simp [intOf]
    · obtain ⟨p0, p1, p2, p3, -⟩ := (show SetAt wr w.heap.size U from hs).cells
      obtain ⟨o0, o1, o2, o3, f0, f1, f2, f3⟩ := HS0.out.cells
      clear hs
      go_wp2_with fail
      have HZ := Lib.hid (put4_at U HS0.out)
      have HG := Lib.hid (put4_grown wr (w.heap.size + 2) U)
      change bodyPost _ _ _ _ _ (put4 wr (w.heap.size + 2) U)
      generalize put4 wr (w.heap.size + 2) U = W2 at *
      obtain ⟨p0, p1, p2, p3, -⟩ := HZ.out.cells
      (try simp only [Exit.inBlock, Exit.then])
      refine bodyPost_ret (v := .agg #[.int .u64 (wd U 0), .int .u64 (wd U 1), .int .u64 (wd U 2), .int .u64 (wd U 3)]) (by simp [results, Tryd.results55, go_sem, p0, p1, p2, p3]) rfl ?_
      exact ⟨rfl, HB.out.grown HG.out HB.out.size (fun r hr => by cases hr; omega)⟩
set_option maxRecDepth 100000 in
set_option maxHeartbeats 400000 in
theorem rhas_any (S : BitVec 256) (b : Nat) (w : World) (hb : b ≤ 255) :
    Calls Tryd.prog 57 #[setV S, .int .u8 b] w fun e w' => e = .returned (.bool (S.getLsbD b)) ∧ Below w.heap.size w w' := by
  unfold setV wv
  have HW := fun k => wd_lt S k
  have HQ := Lib.hid (fun k => has_word S b k)
  generalize S.getLsbD b = r at *
  generalize wd S = q at *
  rcases (show b / 64 = 0 ∨ b / 64 = 1 ∨ b / 64 = 2 ∨ b / 64 = 3 by omega) with h | h | h | h
  · have hd : (b : Int) / 64 = 0 := by omega
    go_enter Tryd.func57, Tryd.ntmps57
    go_wp2
    go_ret
    exact ⟨ret_bool (HQ.out 0 h), (Below.refl _ _).alloc (Nat.le_refl _) _⟩
  · have hd : (b : Int) / 64 = 1 := by omega
    go_enter Tryd.func57, Tryd.ntmps57
    go_wp2
    go_ret
    exact ⟨ret_bool (HQ.out 1 h), (Below.refl _ _).alloc (Nat.le_refl _) _⟩
  · have hd : (b : Int) / 64 = 2 := by omega
    go_enter Tryd.func57, Tryd.ntmps57
    go_wp2
    go_ret
    exact ⟨ret_bool (HQ.out 2 h), (Below.refl _ _).alloc (Nat.le_refl _) _⟩
  · have hd : (b : Int) / 64 = 3 := by omega
    go_enter Tryd.func57, Tryd.ntmps57
    go_wp2
    go_ret
    exact ⟨ret_bool (HQ.out 3 h), (Below.refl _ _).alloc (Nat.le_refl _) _⟩
set_option maxRecDepth 100000 in
set_option maxHeartbeats 800000 in
theorem radd_any (S : BitVec 256) (b : Nat) (w : World) (hb : b ≤ 255) :
    Calls Tryd.prog 36 #[setV S, .int .u8 b] w fun e w' => e = .returned (setV (S ||| bit b)) ∧ Below w.heap.size w w' := by
  have HP := Lib.hid (put_same S b hb)
  have HO := Lib.hid (fun k hk h => put_other S b k hb hk h)
  generalize hU : S ||| bit b = U
  rw [hU] at HP HO
  clear hU
  unfold setV wv
  rcases (show b / 64 = 0 ∨ b / 64 = 1 ∨ b / 64 = 2 ∨ b / 64 = 3 by omega) with h | h | h | h
  · have hd : (b : Int) / 64 = 0 := by omega
    rw [h] at HP
    go_enter Tryd.func36, Tryd.ntmps36
    go_wp2_with fail
    rw [HP.out, ← HO.out 1 (by omega) (by omega), ← HO.out 2 (by omega) (by omega), ← HO.out 3 (by omega) (by omega)]
    (try simp only [Exit.inBlock, Exit.then])
    refine bodyPost_ret (v := .agg #[.int .u64 (wd U 0), .int .u64 (wd U 1), .int .u64 (wd U 2), .int .u64 (wd U 3)]) (by simp [results, Tryd.results36, go_sem]) rfl ?_
    exact ⟨rfl, ((Below.refl _ _).alloc (Nat.le_refl _) _).alloc (by simp) _⟩
  · have hd : (b : Int) / 64 = 1 := by omega
    rw [h] at HP
    go_enter Tryd.func36, Tryd.ntmps36
    go_wp2_with fail
    rw [HP.out, ← HO.out 0 (by omega) (by omega), ← HO.out 2 (by omega) (by omega), ← HO.out 3 (by omega) (by omega)]
    (try simp only [Exit.inBlock, Exit.then])
    refine bodyPost_ret (v := .agg #[.int .u64 (wd U 0), .int .u64 (wd U 1), .int .u64 (wd U 2), .int .u64 (wd U 3)]) (by simp [results, Tryd.results36, go_sem]) rfl ?_
    exact ⟨rfl, ((Below.refl _ _).alloc (Nat.le_refl _) _).alloc (by simp) _⟩
  · have hd : (b : Int) / 64 = 2 := by omega
    rw [h] at HP
    go_enter Tryd.func36, Tryd.ntmps36
    go_wp2_with fail
    rw [HP.out, ← HO.out 0 (by omega) (by omega), ← HO.out 1 (by omega) (by omega), ← HO.out 3 (by omega) (by omega)]
    (try simp only [Exit.inBlock, Exit.then])
    refine bodyPost_ret (v := .agg #[.int .u64 (wd U 0), .int .u64 (wd U 1), .int .u64 (wd U 2), .int .u64 (wd U 3)]) (by simp [results, Tryd.results36, go_sem]) rfl ?_
    exact ⟨rfl, ((Below.refl _ _).alloc (Nat.le_refl _) _).alloc (by simp) _⟩
  · have hd : (b : Int) / 64 = 3 := by omega
    rw [h] at HP
    go_enter Tryd.func36, Tryd.ntmps36
    go_wp2_with fail
    rw [HP.out, ← HO.out 0 (by omega) (by omega), ← HO.out 1 (by omega) (by omega), ← HO.out 2 (by omega) (by omega)]
    (try simp only [Exit.inBlock, Exit.then])
    refine bodyPost_ret (v := .agg #[.int .u64 (wd U 0), .int .u64 (wd U 1), .int .u64 (wd U 2), .int .u64 (wd U 3)]) (by simp [results, Tryd.results36, go_sem]) rfl ?_
    exact ⟨rfl, ((Below.refl _ _).alloc (Nat.le_refl _) _).alloc (by simp) _⟩
end Go.Proofs.YtafmhhhboihdfaaDoor
