/-
  The document's answer: the bytes of a class: the blocks it keeps. Conditions: those that each theorem names. Printed by gen_rclass.py.
-/
import Derived.Test.YtafmhhhboihdfaaDoorClassPre
import Derived.Deep.RegionLaw
import Derived.Deep.CutBlock
import Derived.Deep.DeepCutAuto
import Derived.Outline
namespace Go.Proofs.YtafmhhhboihdfaaDoor
open Go.RowKit
set_option linter.unusedVariables false
attribute [local go_sem ↓] Go.wp_at_zero Go.wp_at_succ
/-- the blocks of the document's Class: the answer's, and those of its four variables -/
structure RcAt (w W : World) (B : Nat) (lo up di gr : BitVec 256) : Prop where
  z : SetAt W w.heap.size 0
  l : SetAt W B lo
  u : SetAt W (B + 1) up
  d : SetAt W (B + 1 + 1) di
  g : SetAt W (B + 1 + 1 + 1) gr
  n : w.heap.size < B
  b : Below w.heap.size w W
section
variable {w W W' : World} {B : Nat} {lo up di gr : BitVec 256}
theorem RcAt.below (h : RcAt w W B lo up di gr) (b : Below W.heap.size W W') : RcAt w W' B lo up di gr :=
  ⟨h.z.below b h.z.lt, h.l.below b h.l.lt, h.u.below b h.u.lt, h.d.below b h.d.lt, h.g.below b h.g.lt, h.n, h.b.trans (b.mono h.b.size)⟩
theorem RcAt.alloc (h : RcAt w W B lo up di gr) (o : Obj) : RcAt w (W.alloc o) B lo up di gr := h.below ((Below.refl _ _).alloc (Nat.le_refl _) _)
theorem RcAt.s12 (h : RcAt w W B lo up di gr) : W.cell? ⟨B, 0, none⟩ = some (.int .u64 (wd lo 0)) ∧ W.cell? ⟨B, 1, none⟩ = some (.int .u64 (wd lo 1)) ∧ W.cell? ⟨B, 2, none⟩ = some (.int .u64 (wd lo 2)) ∧ W.cell? ⟨B, 3, none⟩ = some (.int .u64 (wd lo 3)) ∧ W.cell? ⟨B + 1, 0, none⟩ = some (.int .u64 (wd up 0)) ∧ W.cell? ⟨B + 1, 1, none⟩ = some (.int .u64 (wd up 1)) ∧ W.cell? ⟨B + 1, 2, none⟩ = some (.int .u64 (wd up 2)) ∧ W.cell? ⟨B + 1, 3, none⟩ = some (.int .u64 (wd up 3)) ∧ W.cell? ⟨B + 1 + 1, 0, none⟩ = some (.int .u64 (wd di 0)) ∧ W.cell? ⟨B + 1 + 1, 1, none⟩ = some (.int .u64 (wd di 1)) ∧ W.cell? ⟨B + 1 + 1, 2, none⟩ = some (.int .u64 (wd di 2)) ∧ W.cell? ⟨B + 1 + 1, 3, none⟩ = some (.int .u64 (wd di 3)) ∧ B < W.heap.size ∧ B + 1 < W.heap.size ∧ B + 1 + 1 < W.heap.size :=
  ⟨h.l.cells.1, h.l.cells.2.1, h.l.cells.2.2.1, h.l.cells.2.2.2.1, h.u.cells.1, h.u.cells.2.1, h.u.cells.2.2.1, h.u.cells.2.2.2.1, h.d.cells.1, h.d.cells.2.1, h.d.cells.2.2.1, h.d.cells.2.2.2.1, h.l.lt, h.u.lt, h.d.lt⟩
theorem RcAt.put (h : RcAt w W B lo up di gr) {G : Nat} (hG : B + 1 + 1 + 1 < G) (an : BitVec 256) : RcAt w (put4 W G an) B lo up di gr := by
  have g := put4_grown W G an
  have ne : ∀ {k : Nat}, k < G → some G ≠ some k := fun hk e => by have := Option.some.inj e; omega
  have n := h.n
  exact ⟨h.z.kept g (ne (by omega)), h.l.kept g (ne (by omega)), h.u.kept g (ne (by omega)), h.d.kept g (ne (by omega)), h.g.kept g (ne (by omega)), h.n, h.b.grown g h.b.size (fun k hk => by have := Option.some.inj hk; omega)⟩
theorem RcAt.drew (h : RcAt w W B lo up di gr) : RcAt w W.drew B lo up di gr := h.below (Below.refl _ _).drew
end
theorem alloc_four {w w4 : World} (lo up di gr : BitVec 256) (hz : SetAt w4 w.heap.size 0) (hb : Below w.heap.size w w4) :
    RcAt w ((((w4.alloc (.cells #[.int .u64 (wd lo 0), .int .u64 (wd lo 1), .int .u64 (wd lo 2), .int .u64 (wd lo 3)] 68)).alloc (.cells #[.int .u64 (wd up 0), .int .u64 (wd up 1), .int .u64 (wd up 2), .int .u64 (wd up 3)] 68)).alloc (.cells #[.int .u64 (wd di 0), .int .u64 (wd di 1), .int .u64 (wd di 2), .int .u64 (wd di 3)] 68)).alloc (.cells #[.int .u64 (wd gr 0), .int .u64 (wd gr 1), .int .u64 (wd gr 2), .int .u64 (wd gr 3)] 68)) w4.heap.size lo up di gr := by
  obtain ⟨h1, h2, h3, h4⟩ := alloc_two w4 lo up
  obtain ⟨g1, g2, g3, g4⟩ := alloc_two ((w4.alloc (.cells #[.int .u64 (wd lo 0), .int .u64 (wd lo 1), .int .u64 (wd lo 2), .int .u64 (wd lo 3)] 68)).alloc (.cells #[.int .u64 (wd up 0), .int .u64 (wd up 1), .int .u64 (wd up 2), .int .u64 (wd up 3)] 68)) di gr
  rw [h4] at g1 g2
  have h3' := (h3.trans (g3.mono (by omega)))
  exact ⟨hz.below h3' hz.lt, h1.below g3 h1.lt, h2.below g3 h2.lt, g1, g2, hz.lt, hb.trans (h3'.mono hb.size)⟩
/-- with the set of letters and digits -/
structure RcG (w W : World) (B G : Nat) (lo up di gr an : BitVec 256) : Prop where
  r : RcAt w W B lo up di gr
  a : SetAt W G an
section
variable {w W W' : World} {B G : Nat} {lo up di gr an : BitVec 256}
theorem RcG.below (h : RcG w W B G lo up di gr an) (b : Below W.heap.size W W') : RcG w W' B G lo up di gr an := ⟨h.r.below b, h.a.below b h.a.lt⟩
theorem RcG.drew (h : RcG w W B G lo up di gr an) : RcG w W.drew B G lo up di gr an := h.below (Below.refl _ _).drew
theorem RcG.s28 (h : RcG w W B G lo up di gr an) : W.cell? ⟨B, 0, none⟩ = some (.int .u64 (wd lo 0)) ∧ W.cell? ⟨B, 1, none⟩ = some (.int .u64 (wd lo 1)) ∧ W.cell? ⟨B, 2, none⟩ = some (.int .u64 (wd lo 2)) ∧ W.cell? ⟨B, 3, none⟩ = some (.int .u64 (wd lo 3)) ∧ W.cell? ⟨B + 1, 0, none⟩ = some (.int .u64 (wd up 0)) ∧ W.cell? ⟨B + 1, 1, none⟩ = some (.int .u64 (wd up 1)) ∧ W.cell? ⟨B + 1, 2, none⟩ = some (.int .u64 (wd up 2)) ∧ W.cell? ⟨B + 1, 3, none⟩ = some (.int .u64 (wd up 3)) ∧ W.cell? ⟨B + 1 + 1, 0, none⟩ = some (.int .u64 (wd di 0)) ∧ W.cell? ⟨B + 1 + 1, 1, none⟩ = some (.int .u64 (wd di 1)) ∧ W.cell? ⟨B + 1 + 1, 2, none⟩ = some (.int .u64 (wd di 2)) ∧ W.cell? ⟨B + 1 + 1, 3, none⟩ = some (.int .u64 (wd di 3)) ∧ W.cell? ⟨B + 1 + 1 + 1, 0, none⟩ = some (.int .u64 (wd gr 0)) ∧ W.cell? ⟨B + 1 + 1 + 1, 1, none⟩ = some (.int .u64 (wd gr 1)) ∧ W.cell? ⟨B + 1 + 1 + 1, 2, none⟩ = some (.int .u64 (wd gr 2)) ∧ W.cell? ⟨B + 1 + 1 + 1, 3, none⟩ = some (.int .u64 (wd gr 3)) ∧ W.cell? ⟨G, 0, none⟩ = some (.int .u64 (wd an 0)) ∧ W.cell? ⟨G, 1, none⟩ = some (.int .u64 (wd an 1)) ∧ W.cell? ⟨G, 2, none⟩ = some (.int .u64 (wd an 2)) ∧ W.cell? ⟨G, 3, none⟩ = some (.int .u64 (wd an 3)) ∧ W.cell? ⟨w.heap.size, 0, none⟩ = some (.int .u64 (wd (0 : BitVec 256) 0)) ∧ W.cell? ⟨w.heap.size, 1, none⟩ = some (.int .u64 (wd (0 : BitVec 256) 1)) ∧ W.cell? ⟨w.heap.size, 2, none⟩ = some (.int .u64 (wd (0 : BitVec 256) 2)) ∧ W.cell? ⟨w.heap.size, 3, none⟩ = some (.int .u64 (wd (0 : BitVec 256) 3)) ∧ W.frozen? ⟨w.heap.size, 0, none⟩ = false ∧ W.frozen? ⟨w.heap.size, 1, none⟩ = false ∧ W.frozen? ⟨w.heap.size, 2, none⟩ = false ∧ W.frozen? ⟨w.heap.size, 3, none⟩ = false ∧ RcG w W B G lo up di gr an :=
  ⟨h.r.l.cells.1, h.r.l.cells.2.1, h.r.l.cells.2.2.1, h.r.l.cells.2.2.2.1, h.r.u.cells.1, h.r.u.cells.2.1, h.r.u.cells.2.2.1, h.r.u.cells.2.2.2.1, h.r.d.cells.1, h.r.d.cells.2.1, h.r.d.cells.2.2.1, h.r.d.cells.2.2.2.1, h.r.g.cells.1, h.r.g.cells.2.1, h.r.g.cells.2.2.1, h.r.g.cells.2.2.2.1, h.a.cells.1, h.a.cells.2.1, h.a.cells.2.2.1, h.a.cells.2.2.2.1, h.r.z.cells.1, h.r.z.cells.2.1, h.r.z.cells.2.2.1, h.r.z.cells.2.2.2.1, h.r.z.cells.2.2.2.2.1, h.r.z.cells.2.2.2.2.2.1, h.r.z.cells.2.2.2.2.2.2.1, h.r.z.cells.2.2.2.2.2.2.2, h⟩
end

theorem rset_alpha : classS [97, 108, 112, 104, 97] = some (rangeS 97 122 ||| rangeS 65 90) := by decide +kernel
theorem rset_digit : classS [100, 105, 103, 105, 116] = some (rangeS 48 57) := by decide +kernel
theorem rset_alnum : classS [97, 108, 110, 117, 109] = some (rangeS 97 122 ||| rangeS 65 90 ||| rangeS 48 57) := by decide +kernel
theorem rset_upper : classS [117, 112, 112, 101, 114] = some (rangeS 65 90) := by decide +kernel
theorem rset_lower : classS [108, 111, 119, 101, 114] = some (rangeS 97 122) := by decide +kernel
theorem rset_space : classS [115, 112, 97, 99, 101] = some (rangeS 9 13 ||| rangeS 32 32) := by decide +kernel
theorem rset_blank : classS [98, 108, 97, 110, 107] = some (rangeS 9 9 ||| rangeS 32 32) := by decide +kernel
theorem rset_print : classS [112, 114, 105, 110, 116] = some (rangeS 33 126 ||| rangeS 32 32) := by decide +kernel
theorem rset_graph : classS [103, 114, 97, 112, 104] = some (rangeS 33 126) := by decide +kernel
theorem rset_punct : classS [112, 117, 110, 99, 116] = some (~~~ (~~~ (rangeS 33 126) ||| (rangeS 97 122 ||| rangeS 65 90 ||| rangeS 48 57))) := by decide +kernel
theorem rset_cntrl : classS [99, 110, 116, 114, 108] = some (rangeS 0 31 ||| rangeS 127 127) := by decide +kernel
theorem rset_xdigit : classS [120, 100, 105, 103, 105, 116] = some (rangeS 48 57 ||| (rangeS 97 102 ||| rangeS 65 70)) := by decide +kernel
theorem rclass_none (l : List UInt8) (h0 : (l == [97, 108, 112, 104, 97]) = false) (h1 : (l == [100, 105, 103, 105, 116]) = false) (h2 : (l == [97, 108, 110, 117, 109]) = false) (h3 : (l == [117, 112, 112, 101, 114]) = false) (h4 : (l == [108, 111, 119, 101, 114]) = false) (h5 : (l == [115, 112, 97, 99, 101]) = false) (h6 : (l == [98, 108, 97, 110, 107]) = false) (h7 : (l == [112, 114, 105, 110, 116]) = false) (h8 : (l == [103, 114, 97, 112, 104]) = false) (h9 : (l == [112, 117, 110, 99, 116]) = false) (h10 : (l == [99, 110, 116, 114, 108]) = false) (h11 : (l == [120, 100, 105, 103, 105, 116]) = false) : classS l = none := by
  exact class_none l h2 h0 h1 h3 h4 h5 h6 h7 h8 h9 h10 h11
end Go.Proofs.YtafmhhhboihdfaaDoor
