/-
  A pattern's pieces as Parse makes them: the block of the pattern, the row of its pieces. Conditions: those that each theorem names.
-/
import Derived.Test.YtafmhhhboihdfaaDoorSpec
import Derived.Test.YtafmhhhboihdfaaDoorPieces
import Derived.Maps.AppendAt
import Derived.Deep.AppendLies
namespace Go.Proofs.YtafmhhhboihdfaaDoor
open Go.RowKit
set_option linter.unusedVariables false
/-- the block behind a world's end holds a pattern of some pieces, in a row of the call's own -/
structure PtW (w W : World) (v : Value) (l : List Pc) : Prop where
  q : W.heap[w.heap.size]? = some (.cells #[v] 62 (0, 0))
  o : W.ownsRow (w.heap.size + 1) 70 5 v l.length (pcells l)
  b : Below w.heap.size w W
section
variable {w W W' : World} {v : Value} {l : List Pc}
theorem PtW.lt (h : PtW w W v l) : w.heap.size < W.heap.size := (Array.getElem?_eq_some_iff.1 h.q).1
theorem PtW.cell (h : PtW w W v l) : W.cell? ⟨w.heap.size, 0, none⟩ = some v ∧ W.frozen? ⟨w.heap.size, 0, none⟩ = false := by
  have h1 := h.q
  exact ⟨by rw [World.cell?, h1]; rfl, by rw [World.frozen?, h1]; rfl⟩
theorem PtW.below (h : PtW w W v l) (g : Below W.heap.size W W') : PtW w W' v l := by
  refine ⟨(g.block _ h.lt).trans h.q, ?_, h.b.trans (g.mono h.b.size)⟩
  obtain ⟨h1, h2⟩ := h.o
  refine ⟨h1, ?_⟩
  rcases h2 with h2 | ⟨gg, cap, cur, e1, e2, e3, e4⟩
  · exact .inl h2
  · exact .inr ⟨gg, cap, cur, e1, e2, (g.block gg (Array.getElem?_eq_some_iff.1 e3).1).trans e3, e4⟩
theorem PtW.alloc (h : PtW w W v l) (o : Obj) : PtW w (W.alloc o) v l := h.below ((Below.refl _ _).alloc (Nat.le_refl _) _)
theorem PtW.drew (h : PtW w W v l) : PtW w W.drew v l := h.below (Below.refl _ _).drew
theorem PtW.drewN (h : PtW w W v l) (n : Nat) : PtW w (W.drewN n) v l := h.below ⟨rfl, rfl, rfl, Nat.le_refl _, fun _ _ => rfl⟩
theorem PtW.start (w : World) : PtW w (w.alloc (.cells #[.slice none 0 0] 62)) (.slice none 0 0) [] :=
  ⟨heap_alloc_new _ _, ⟨rfl, .inl ⟨rfl, rfl⟩⟩, (Below.refl _ _).alloc (Nat.le_refl _) _⟩
theorem PtW.after (h : PtW w W v l) (g : W.grownBy W' v.ownBlock) : (W'.cell? ⟨w.heap.size, 0, none⟩ = some v ∧ W'.frozen? ⟨w.heap.size, 0, none⟩ = false) ∧ Below w.heap.size w W' := by
  have hne : ∀ k, v.ownBlock = some k → w.heap.size + 1 ≤ k := by
    intro k hk
    rcases h.o.2 with ⟨e, -⟩ | ⟨gg, cap, cur, e1, e2, -⟩
    · rw [e] at hk; cases hk
    · rw [e1] at hk; have : gg = k := by simpa [Value.ownBlock] using hk
      omega
  have h1 : W'.heap[w.heap.size]? = some (.cells #[v] 62 (0, 0)) := (g.block _ h.lt (fun e => by have := hne _ e.symm; omega)).trans h.q
  exact ⟨⟨by rw [World.cell?, h1]; rfl, by rw [World.frozen?, h1]; rfl⟩, h.b.grown g h.b.size (fun k hk => by have := hne k hk; omega)⟩
/-- behind the append and the store of the new row -/
theorem PtW.grow (h : PtW w W v l) {v' : Value} {p : Pc} (ho : W'.ownsRow (w.heap.size + 1) 70 5 v' (l.length + 1) (pcells l ++ pc5 p)) (g : W.grownBy W' v.ownBlock) : PtW w (W'.setCell ⟨w.heap.size, 0, none⟩ v') v' (l ++ [p]) := by
  have hne : ∀ k, v.ownBlock = some k → w.heap.size + 1 ≤ k := by
    intro k hk
    rcases h.o.2 with ⟨e, -⟩ | ⟨gg, cap, cur, e1, e2, -⟩
    · rw [e] at hk; cases hk
    · rw [e1] at hk; have : gg = k := by simpa [Value.ownBlock] using hk
      omega
  have hlt := h.lt
  have hq : W'.heap[w.heap.size]? = some (.cells #[v] 62 (0, 0)) := (g.block _ hlt (fun e => by have := hne _ e.symm; omega)).trans h.q
  refine ⟨heap_setCell_at W' w.heap.size 0 #[v] 62 (0, 0) v' hq, ?_, ?_⟩
  · obtain ⟨h1, h2⟩ := ho
    refine ⟨by simpa [pcells, List.flatMap_append, pc5, Nat.add_mul] using h1, ?_⟩
    have e0 : pcells (l ++ [p]) = pcells l ++ pc5 p := by simp [pcells]
    rcases h2 with ⟨-, h2⟩ | ⟨gg, cap, cur, e1, e2, e3, e4, e5, e6, e7⟩
    · omega
    · refine .inr ⟨gg, cap, cur, by simpa using e1, e2, ?_, by simpa using e4, e5, e6, by rw [e0]; simpa using e7⟩
      exact (Below.heap_setCell W' ⟨w.heap.size, 0, none⟩ v' gg (fun e => by have : gg = w.heap.size := e; omega)).trans e3
  · exact (h.b.grown g h.b.size (fun k hk => by have := hne k hk; omega)).setCell (Nat.le_refl _) v'
theorem pc5_one (p : Pc) : ∀ u ∈ pc5 p, u.oneCell' = true := by
  intro u hu
  simp [pc5] at hu
  rcases hu with rfl | rfl | rfl | rfl | rfl <;> rfl
/-- behind a whole reading: the pattern, as Match and its like want it -/
theorem PtW.out (h : PtW w W v l) : ∃ a cap, v = .slice a l.length cap ∧ PatAt W w.heap.size a l.length cap ∧ HasP W W.heap.size a l := by
  rcases h.o.2 with ⟨e1, e2⟩ | ⟨gg, cap, cur, e1, e2, e3, e4, e5, e6, e7⟩
  · have : l = [] := List.length_eq_zero_iff.1 e2
    subst this
    exact ⟨none, 0, e1, by have hq := h.q; rw [e1] at hq; exact hq, .inl rfl⟩
  · refine ⟨some ⟨gg, 0, none⟩, cap, e1, by unfold PatAt; rw [← e1]; exact h.q, HasP.mk (Array.getElem?_eq_some_iff.1 e3).1 (Nat.le_refl _) fun i k hi hk => ?_⟩
    rw [Nat.zero_add, cell_of_heap e3, ← pcells_at l i k hi hk, ← e7]
    rw [List.getElem?_take, if_pos (by omega), Array.getElem?_toList]
theorem news_at (W : World) (p : Pc) (j : Nat) (u : Value) (h : (pc5 p)[j]? = some u) : (W.alloc (.cells #[.int .i64 p.kind, .int .u64 (wd p.set 0), .int .u64 (wd p.set 1), .int .u64 (wd p.set 2), .int .u64 (wd p.set 3)] 70)).cell? ((⟨W.heap.size, 0, none⟩ : Addr).add j) = some u := by
  have hadd : (⟨W.heap.size, 0, none⟩ : Addr).add j = ⟨W.heap.size, j, none⟩ := by unfold Addr.add; split <;> simp_all
  rw [hadd, cell_of_heap (heap_alloc_new W _), ← Array.getElem?_toList]
  exact h
end
end Go.Proofs.YtafmhhhboihdfaaDoor
