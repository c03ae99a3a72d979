/-
  Classes of bytes: set.Class. Conditions: those that each theorem names. Printed by gen_class.py.
-/
import Derived.Test.YtafmhhhboihdfaaDoorSpec
import Derived.Test.YtafmhhhboihdfaaDoorRun
import Derived.Outline
import Derived.Deep.RegionHeld3
import Derived.Deep.DrawnRows
import Derived.Deep.CutBlock
import Derived.Deep.DeepCutAuto
namespace Go.Proofs.YtafmhhhboihdfaaDoor
open Go.RowKit
set_option linter.unusedVariables false
attribute [local go_sem ↓] Go.wp_at_zero Go.wp_at_succ
theorem alloc_two (w : World) (A B : BitVec 256) : SetAt ((w.alloc (.cells #[.int .u64 (wd A 0), .int .u64 (wd A 1), .int .u64 (wd A 2), .int .u64 (wd A 3)] 68)).alloc (.cells #[.int .u64 (wd B 0), .int .u64 (wd B 1), .int .u64 (wd B 2), .int .u64 (wd B 3)] 68)) w.heap.size A ∧ SetAt ((w.alloc (.cells #[.int .u64 (wd A 0), .int .u64 (wd A 1), .int .u64 (wd A 2), .int .u64 (wd A 3)] 68)).alloc (.cells #[.int .u64 (wd B 0), .int .u64 (wd B 1), .int .u64 (wd B 2), .int .u64 (wd B 3)] 68)) (w.heap.size + 1) B ∧
    Below w.heap.size w ((w.alloc (.cells #[.int .u64 (wd A 0), .int .u64 (wd A 1), .int .u64 (wd A 2), .int .u64 (wd A 3)] 68)).alloc (.cells #[.int .u64 (wd B 0), .int .u64 (wd B 1), .int .u64 (wd B 2), .int .u64 (wd B 3)] 68)) ∧ ((w.alloc (.cells #[.int .u64 (wd A 0), .int .u64 (wd A 1), .int .u64 (wd A 2), .int .u64 (wd A 3)] 68)).alloc (.cells #[.int .u64 (wd B 0), .int .u64 (wd B 1), .int .u64 (wd B 2), .int .u64 (wd B 3)] 68)).heap.size = w.heap.size + 2 := by
  refine ⟨SetAt.kept (S := A) (show SetAt (w.alloc (.cells #[.int .u64 (wd A 0), .int .u64 (wd A 1), .int .u64 (wd A 2), .int .u64 (wd A 3)] 68)) w.heap.size A from heap_alloc_new _ _) (World.grownBy_alloc _ _ none) (by simp), ?_, ((Below.refl _ _).alloc (Nat.le_refl _) _).alloc (by simp) _, by simp⟩
  have h := heap_alloc_new (w.alloc (.cells #[.int .u64 (wd A 0), .int .u64 (wd A 1), .int .u64 (wd A 2), .int .u64 (wd A 3)] 68)) (.cells #[.int .u64 (wd B 0), .int .u64 (wd B 1), .int .u64 (wd B 2), .int .u64 (wd B 3)] 68)
  unfold SetAt
  rw [show w.heap.size + 1 = (w.alloc (.cells #[.int .u64 (wd A 0), .int .u64 (wd A 1), .int .u64 (wd A 2), .int .u64 (wd A 3)] 68)).heap.size by simp]
  exact h
theorem block_at (w : World) (o : Obj) (k : Nat) (hk : k = w.heap.size) : (w.alloc o).heap[k]? = some o := by subst hk; exact heap_alloc_new w o
def c4 (A : BitVec 256) : List Value := [.int .u64 (wd A 0), .int .u64 (wd A 1), .int .u64 (wd A 2), .int .u64 (wd A 3)]
theorem sets_block (w : World) (c : Nat) (l : List (BitVec 256)) (C : Array Value) (t : TypeId) (h : w.heap[c]? = some (.cells C t (0, 0))) (hC : C.toList = l.flatMap c4) : HasSets w (some ⟨c, 0, none⟩) l := by
  have hat : ∀ (l : List (BitVec 256)) (i k : Nat) (hi : i < l.length), k < 4 → (l.flatMap c4)[i * 4 + k]? = (c4 l[i])[k]? := by
    intro l
    induction l with
    | nil => intro i k hi; simp at hi
    | cons A l ih =>
      intro i k hi hk
      rw [List.flatMap_cons]
      cases i with
      | zero => rw [List.getElem?_append_left (by simp [c4]; omega)]; simp
      | succ i =>
        rw [List.getElem?_append_right (by simp [c4]; omega), show (i + 1) * 4 + k - (c4 A).length = i * 4 + k by simp [c4]; omega, ih i k (by simpa using hi) hk]
        rfl
  have hc : ∀ i k (hi : i < l.length), k < 4 → w.cell? ⟨c, 0 + i * 4 + k, none⟩ = (c4 l[i])[k]? := fun i k hi hk => by
    rw [cell_of_heap h, Nat.zero_add, ← Array.getElem?_toList, hC]; exact hat l i k hi hk
  exact .inr ⟨c, 0, rfl, (Array.getElem?_eq_some_iff.1 h).1, fun i hi => ⟨hc i 0 hi (by omega), hc i 1 hi (by omega), hc i 2 hi (by omega), hc i 3 hi (by omega)⟩⟩
/-- the blocks of Class: the answer's, and those of its variables -/
structure ClsAt (w W : World) (G D U L V : Nat) (gr di up lo X : BitVec 256) : Prop where
  z : SetAt W w.heap.size 0
  g : SetAt W G gr
  d : SetAt W D di
  u : SetAt W U up
  l : SetAt W L lo
  x : SetAt W V X
  nz : w.heap.size < V
  ng : G < V
  nd : D < V
  nu : U < V
  nl : L < V
  b : Below w.heap.size w W
section
variable {w W W' : World} {G D U L V : Nat} {gr di up lo X : BitVec 256}
theorem ClsAt.below (h : ClsAt w W G D U L V gr di up lo X) (b : Below W.heap.size W W') : ClsAt w W' G D U L V gr di up lo X :=
  ⟨h.z.below b h.z.lt, h.g.below b h.g.lt, h.d.below b h.d.lt, h.u.below b h.u.lt, h.l.below b h.l.lt, h.x.below b h.x.lt, h.nz, h.ng, h.nd, h.nu, h.nl, h.b.trans (b.mono h.b.size)⟩
theorem ClsAt.alloc (h : ClsAt w W G D U L V gr di up lo X) (o : Obj) : ClsAt w (W.alloc o) G D U L V gr di up lo X :=
  h.below ((Below.refl _ _).alloc (Nat.le_refl _) _)
theorem ClsAt.drew (h : ClsAt w W G D U L V gr di up lo X) : ClsAt w W.drew G D U L V gr di up lo X :=
  h.below (Below.refl _ _).drew
theorem ClsAt.put (h : ClsAt w W G D U L V gr di up lo X) (Y : BitVec 256) : ClsAt w (put4 W V Y) G D U L V gr di up lo Y := by
  have g := put4_grown W V Y
  have ne : ∀ {k : Nat}, k < V → some V ≠ some k := fun hk e => by have := Option.some.inj e; omega
  exact ⟨h.z.kept g (ne h.nz), h.g.kept g (ne h.ng), h.d.kept g (ne h.nd), h.u.kept g (ne h.nu), h.l.kept g (ne h.nl), put4_at Y h.x, h.nz, h.ng, h.nd, h.nu, h.nl, h.b.grown g h.b.size (fun k hk => by have := Option.some.inj hk; have := h.nz; omega)⟩
theorem ClsAt.s8 (h : ClsAt w W G D U L V gr di up lo X) :
  W.cell? ⟨V, 0, none⟩ = some (.int .u64 (wd X 0)) ∧ W.cell? ⟨V, 1, none⟩ = some (.int .u64 (wd X 1)) ∧ W.cell? ⟨V, 2, none⟩ = some (.int .u64 (wd X 2)) ∧ W.cell? ⟨V, 3, none⟩ = some (.int .u64 (wd X 3)) ∧ W.frozen? ⟨V, 0, none⟩ = false ∧ W.frozen? ⟨V, 1, none⟩ = false ∧ W.frozen? ⟨V, 2, none⟩ = false ∧ W.frozen? ⟨V, 3, none⟩ = false ∧ ClsAt w W G D U L V gr di up lo X := by
  obtain ⟨x0, x1, x2, x3, xf0, xf1, xf2, xf3⟩ := h.x.cells
  exact ⟨x0, x1, x2, x3, xf0, xf1, xf2, xf3, h⟩
end
theorem toList_bl (s : ByteArray) : s.toList = bl s := ByteArray.toList_eq s

def ClsMet (l : List UInt8) (S : BitVec 256) : Prop := classS l = some S
theorem clsMet_of {l b m : List UInt8} {S : BitVec 256} (hl : l = b) (h : (l == m) = true) (hc : classS m = some S) : ClsMet b S := by
  have e : l = m := by simpa using h
  subst hl; subst e; exact hc
theorem class_none (l : List UInt8) (h0 : (l == [97, 108, 110, 117, 109]) = false) (h1 : (l == [97, 108, 112, 104, 97]) = false) (h2 : (l == [100, 105, 103, 105, 116]) = false) (h3 : (l == [117, 112, 112, 101, 114]) = false) (h4 : (l == [108, 111, 119, 101, 114]) = false) (h5 : (l == [115, 112, 97, 99, 101]) = false) (h6 : (l == [98, 108, 97, 110, 107]) = false) (h7 : (l == [112, 114, 105, 110, 116]) = false) (h8 : (l == [103, 114, 97, 112, 104]) = false) (h9 : (l == [112, 117, 110, 99, 116]) = false) (h10 : (l == [99, 110, 116, 114, 108]) = false) (h11 : (l == [120, 100, 105, 103, 105, 116]) = false) : classS l = none := by
  unfold classS
  simp only [beq_eq_false_iff_ne, ne_eq] at h0 h1 h2 h3 h4 h5 h6 h7 h8 h9 h10 h11
  simp only [if_neg h0, if_neg h1, if_neg h2, if_neg h3, if_neg h4, if_neg h5, if_neg h6, if_neg h7, if_neg h8, if_neg h9, if_neg h10, if_neg h11]
end Go.Proofs.YtafmhhhboihdfaaDoor
