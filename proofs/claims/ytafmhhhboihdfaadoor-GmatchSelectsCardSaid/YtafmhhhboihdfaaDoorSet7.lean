/-
  Sets of bytes: set.Union. Conditions: those that each theorem names.
-/
import Derived.Test.YtafmhhhboihdfaaDoorSet6
namespace Go.Proofs.YtafmhhhboihdfaaDoor
open Go.RowKit
set_option linter.unusedVariables false
/-- sets that lie in memory one behind the other -/
def HasSets (w : World) (a : Option Addr) (l : List (BitVec 256)) : Prop :=
  l = [] ∨ ∃ b off, a = some ⟨b, off, none⟩ ∧ b < w.heap.size ∧ ∀ i (h : i < l.length), w.cell? ⟨b, off + i * 4, none⟩ = some (.int .u64 (wd l[i] 0)) ∧
    w.cell? ⟨b, off + i * 4 + 1, none⟩ = some (.int .u64 (wd l[i] 1)) ∧ w.cell? ⟨b, off + i * 4 + 2, none⟩ = some (.int .u64 (wd l[i] 2)) ∧ w.cell? ⟨b, off + i * 4 + 3, none⟩ = some (.int .u64 (wd l[i] 3))
def unionS (l : List (BitVec 256)) : BitVec 256 := l.foldl (fun S T => S ||| T) 0
theorem unionS_snoc (l : List (BitVec 256)) (T : BitVec 256) : unionS (l ++ [T]) = unionS l ||| T := by simp [unionS]
theorem take_one {α : Type} (l : List α) (k : Nat) (h : k < l.length) : l.take (k + 1) = l.take k ++ [l[k]] := by
  rw [List.take_add_one, List.getElem?_eq_getElem h]; rfl
set_option maxRecDepth 100000 in
set_option maxHeartbeats 1600000 in
theorem union_any (a : Option Addr) (n cap : Nat) (l : List (BitVec 256)) (w : World) (hn : l.length = n) (hl : HasSets w a l) (hlc : n ≤ cap) (hc : cap ≤ 140737488351232) :
    Calls Tryd.prog 80 #[.slice a n cap] w fun e w' => e = .returned (setV (unionS l)) ∧ Below w.heap.size w w' := by
  have HL := Lib.hid hl
  have HSN := Lib.hid (fun j (hj : j < l.length) => (by rw [take_one l j hj, unionS_snoc] : unionS (l.take (j + 1)) = unionS (l.take j) ||| l[j]))
  have HEN := Lib.hid (show unionS (l.take n) = unionS l by rw [← hn, List.take_length])
  have HLN := Lib.hid hn
  generalize hR : unionS l = R at *
  clear hl hR hn
  go_enter Tryd.func80, Tryd.ntmps80
  go_wp2_with fail
  go_loopw [9] (fun x wr => ∃ (j : Nat), x = .int .i64 j ∧ j ≤ n ∧ SetAt wr (w.heap.size + 1) (unionS (l.take j)) ∧ SetAt wr w.heap.size 0 ∧ Below w.heap.size w wr) (fun x _ => n - (intOf x).toNat)
  case atStart =>
    have h1 := setat_alloc w
    refine ⟨0, rfl, by omega, ?_, ?_, ((Below.refl _ _).alloc (Nat.le_refl _) _).alloc (by simp) _⟩
    · rw [show unionS (l.take 0) = 0 by simp [unionS]]
      have h2 := setat_alloc (w.alloc (.cells #[.int .u64 0, .int .u64 0, .int .u64 0, .int .u64 0] 68))
      simpa using h2
    · exact h1.kept (World.grownBy_alloc _ _ none) (by simp)
  case round =>
    obtain ⟨j, rfl, hj, hs1, hs0, hbel⟩ := hrel
    have HB := Lib.hid hbel
    have HS0 := Lib.hid hs0
    have HS1 := Lib.hid hs1
    clear hbel hs1 hs0
    by_cases hlt : j < n
    · have hltI : (j : Int) < n := by omega
      have hjl : j < l.length := by rw [HLN.out]; exact hlt
      rcases HL.out with hS | ⟨b, off, rfl, hbs, hcs⟩
      · rw [hS] at hjl; simp at hjl
      have HE := Lib.hid (HSN.out j hjl)
      obtain ⟨q0, q1, q2, q3⟩ := hcs j hjl
      have hq : ∀ o, wr.cell? ⟨b, o, none⟩ = w.cell? ⟨b, o, none⟩ := fun o => HB.out.cell (p := ⟨b, o, none⟩) hbs
      rw [← hq] at q0 q1 q2 q3
      clear hq hcs
      generalize l[j] = T at *
      generalize unionS (l.take j) = A at *
      have HN := Lib.hid (or_word A T)
      rw [← HE.out] at HN
      generalize hU : unionS (l.take (j + 1)) = U at *
      have HUU := Lib.hid hU
      clear hU
      go_wp2_with fail
      have HT := Lib.hid (show SetAt (wr.alloc (.cells #[.int .u64 (wd T 0), .int .u64 (wd T 1), .int .u64 (wd T 2), .int .u64 (wd T 3)] 68)) wr.heap.size T from heap_alloc_new _ _)
      have HB1 := Lib.hid (HB.out.alloc HB.out.size (.cells #[.int .u64 (wd T 0), .int .u64 (wd T 1), .int .u64 (wd T 2), .int .u64 (wd T 3)] 68))
      have HS1' := Lib.hid (HS1.out.kept (World.grownBy_alloc wr (.cells #[.int .u64 (wd T 0), .int .u64 (wd T 1), .int .u64 (wd T 2), .int .u64 (wd T 3)] 68) none) (by simp))
      have HS0' := Lib.hid (HS0.out.kept (World.grownBy_alloc wr (.cells #[.int .u64 (wd T 0), .int .u64 (wd T 1), .int .u64 (wd T 2), .int .u64 (wd T 3)] 68) none) (by simp))
      have HCN := Lib.hid HS1.out.lt
      generalize wr.alloc (.cells #[.int .u64 (wd T 0), .int .u64 (wd T 1), .int .u64 (wd T 2), .int .u64 (wd T 3)] 68) = W1 at *
      generalize wr.heap.size = C at *
      clear HS1 HS0 HB
      go_loopw [13] (fun y wi => ∃ (k : Nat), y = .int .i64 k ∧ k ≤ 4 ∧ WAt wi (w.heap.size + 1) (mix k (wd U) (wd A)) ∧ SetAt wi C T ∧ SetAt wi w.heap.size 0 ∧ Below w.heap.size w wi) (fun y _ => 4 - (intOf y).toNat)
      case atStart => exact ⟨0, rfl, by omega, HS1'.out, HT.out, HS0'.out, HB1.out⟩
      case round =>
        obtain ⟨k, rfl, hk, hs, hst, hs0, hbel⟩ := hrel
        have HBi := Lib.hid hbel
        have HS0i := Lib.hid hs0
        have HT := Lib.hid hst
        have hCn := HCN.out
        clear hbel hs0 hst
        unfold WAt at hs
        rcases (show k = 0 ∨ k = 1 ∨ k = 2 ∨ k = 3 ∨ k = 4 by omega) with rfl | rfl | rfl | rfl | rfl
        · have c0 : wr.cell? ⟨w.heap.size + 1, 0, none⟩ = some (.int .u64 (wd A 0)) := by rw [World.cell?, hs]; rfl
          have f0 : wr.frozen? ⟨w.heap.size + 1, 0, none⟩ = false := by rw [World.frozen?, hs]; rfl
          obtain ⟨t0, t1, t2, t3, -⟩ := HT.out.cells
          have HS := Lib.hid hs
          clear hs
          go_wp2_with fail
          go_region
          go_wp2_with fail
          go_roundw
          case rel =>
            exact ⟨0 + 1, rfl, by omega, wat_step _ HS.out (by omega) (HN.out 0), HT.out.kept (grown_trans (grown_setCell _ _ _ _) (drew_grown _ _)) (by intro e; cases e; omega), HS0i.out.kept (grown_trans (grown_setCell _ _ _ _) (drew_grown _ _)) (by simp), (HBi.out.setCell (by simp) _).drew⟩
          case measure => simp [intOf]
        · have c0 : wr.cell? ⟨w.heap.size + 1, 1, none⟩ = some (.int .u64 (wd A 1)) := by rw [World.cell?, hs]; rfl
          have f0 : wr.frozen? ⟨w.heap.size + 1, 1, none⟩ = false := by rw [World.frozen?, hs]; rfl
          obtain ⟨t0, t1, t2, t3, -⟩ := HT.out.cells
          have HS := Lib.hid hs
          clear hs
          go_wp2_with fail
          go_region
          go_wp2_with fail
          go_roundw
          case rel =>
            exact ⟨1 + 1, rfl, by omega, wat_step _ HS.out (by omega) (HN.out 1), HT.out.kept (grown_trans (grown_setCell _ _ _ _) (drew_grown _ _)) (by intro e; cases e; omega), HS0i.out.kept (grown_trans (grown_setCell _ _ _ _) (drew_grown _ _)) (by simp), (HBi.out.setCell (by simp) _).drew⟩
          case measure => simp [intOf]
        · have c0 : wr.cell? ⟨w.heap.size + 1, 2, none⟩ = some (.int .u64 (wd A 2)) := by rw [World.cell?, hs]; rfl
          have f0 : wr.frozen? ⟨w.heap.size + 1, 2, none⟩ = false := by rw [World.frozen?, hs]; rfl
          obtain ⟨t0, t1, t2, t3, -⟩ := HT.out.cells
          have HS := Lib.hid hs
          clear hs
          go_wp2_with fail
          go_region
          go_wp2_with fail
          go_roundw
          case rel =>
            exact ⟨2 + 1, rfl, by omega, wat_step _ HS.out (by omega) (HN.out 2), HT.out.kept (grown_trans (grown_setCell _ _ _ _) (drew_grown _ _)) (by intro e; cases e; omega), HS0i.out.kept (grown_trans (grown_setCell _ _ _ _) (drew_grown _ _)) (by simp), (HBi.out.setCell (by simp) _).drew⟩
          case measure => simp [intOf]
        · have c0 : wr.cell? ⟨w.heap.size + 1, 3, none⟩ = some (.int .u64 (wd A 3)) := by rw [World.cell?, hs]; rfl
          have f0 : wr.frozen? ⟨w.heap.size + 1, 3, none⟩ = false := by rw [World.frozen?, hs]; rfl
          obtain ⟨t0, t1, t2, t3, -⟩ := HT.out.cells
          have HS := Lib.hid hs
          clear hs
          go_wp2_with fail
          go_region
          go_wp2_with fail
          go_roundw
          case rel =>
            exact ⟨3 + 1, rfl, by omega, wat_step _ HS.out (by omega) (HN.out 3), HT.out.kept (grown_trans (grown_setCell _ _ _ _) (drew_grown _ _)) (by intro e; cases e; omega), HS0i.out.kept (grown_trans (grown_setCell _ _ _ _) (drew_grown _ _)) (by simp), (HBi.out.setCell (by simp) _).drew⟩
          case measure => simp [intOf]
        · have HS1'' := Lib.hid (show SetAt wr (w.heap.size + 1) U from hs)
          have HE2 := Lib.hid HE.out
          clear hs
          go_wp2_with fail
          go_roundw
          case rel =>
            exact ⟨j + 1, congrArg (Value.int .i64) (by omega), by omega, by rw [HUU.out]; exact HS1''.out, HS0i.out, HBi.out⟩
          case measure => simp [intOf]; omega
    · have hltI : ¬ (j : Int) < n := by omega
      obtain rfl : j = n := by omega
      have hs1 := HS1.out
      rw [HEN.out] at hs1
      obtain ⟨p0, p1, p2, p3, -⟩ := hs1.cells
      obtain ⟨o0, o1, o2, o3, f0, f1, f2, f3⟩ := HS0.out.cells
      clear hs1
      go_wp2_with fail
      have HZ := Lib.hid (put4_at R HS0.out)
      have HG := Lib.hid (put4_grown wr w.heap.size R)
      change bodyPost _ _ _ _ _ (put4 wr w.heap.size R)
      generalize put4 wr w.heap.size R = W2 at *
      obtain ⟨p0, p1, p2, p3, -⟩ := HZ.out.cells
      (try simp only [Exit.inBlock, Exit.then])
      refine bodyPost_ret (v := setV R) (by simp [results, Tryd.results80, go_sem, p0, p1, p2, p3, setV, wv]) rfl ?_
      exact ⟨rfl, HB.out.grown HG.out HB.out.size (fun r hr => by cases hr; omega)⟩
end Go.Proofs.YtafmhhhboihdfaaDoor
