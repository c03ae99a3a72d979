/-
  A bracket's reader: item. Conditions: those that each theorem names.
-/
import Derived.Test.YtafmhhhboihdfaaDoorRd
import Derived.Test.YtafmhhhboihdfaaDoorCut
import Derived.Test.YtafmhhhboihdfaaDoorClass
import Derived.Deep.CutBlock
import Derived.Deep.DeepCutAuto
import Derived.Outline
namespace Go.Proofs.YtafmhhhboihdfaaDoor
open Go.RowKit
set_option linter.unusedVariables false
attribute [local go_sem ↓] Go.wp_at_zero Go.wp_at_succ
/-- the block s holds an item -/
def ItAt (w : World) (s : Nat) (one : Bool) (b : UInt8) (S : BitVec 256) (p : Nat) : Prop :=
  w.heap[s]? = some (.cells #[.bool one, .int .u8 (iv b), wv S 0, wv S 1, wv S 2, wv S 3, .int .i64 p] 122 (0, 0))
def itV (one : Bool) (b : UInt8) (S : BitVec 256) (p : Nat) : Value := .agg #[.bool one, .int .u8 (iv b), wv S 0, wv S 1, wv S 2, wv S 3, .int .i64 p]
theorem ItAt.cells {w : World} {s : Nat} {one : Bool} {b : UInt8} {S : BitVec 256} {p : Nat} (h : ItAt w s one b S p) :
    (w.cell? ⟨s, 0, none⟩ = some (.bool one) ∧ w.cell? ⟨s, 1, none⟩ = some (.int .u8 (iv b)) ∧ w.cell? ⟨s, 2, none⟩ = some (.int .u64 (wd S 0)) ∧ w.cell? ⟨s, 3, none⟩ = some (.int .u64 (wd S 1)) ∧
    w.cell? ⟨s, 4, none⟩ = some (.int .u64 (wd S 2)) ∧ w.cell? ⟨s, 5, none⟩ = some (.int .u64 (wd S 3)) ∧ w.cell? ⟨s, 6, none⟩ = some (.int .i64 p)) ∧
    w.frozen? ⟨s, 0, none⟩ = false ∧ w.frozen? ⟨s, 1, none⟩ = false ∧ w.frozen? ⟨s, 2, none⟩ = false ∧ w.frozen? ⟨s, 3, none⟩ = false ∧ w.frozen? ⟨s, 4, none⟩ = false ∧ w.frozen? ⟨s, 5, none⟩ = false ∧ w.frozen? ⟨s, 6, none⟩ = false := by
  unfold ItAt wv at h
  refine ⟨⟨?_, ?_, ?_, ?_, ?_, ?_, ?_⟩, ?_, ?_, ?_, ?_, ?_, ?_, ?_⟩
  all_goals first
    | (rw [World.cell?, h]; rfl)
    | (rw [World.frozen?, h]; rfl)
theorem ItAt.lt {w : World} {s : Nat} {one : Bool} {b : UInt8} {S : BitVec 256} {p : Nat} (h : ItAt w s one b S p) : s < w.heap.size := (Array.getElem?_eq_some_iff.1 (show w.heap[s]? = _ from h)).1
theorem ItAt.kept {w w' : World} {s : Nat} {one : Bool} {b : UInt8} {S : BitVec 256} {p : Nat} {row : Option Nat} (h : ItAt w s one b S p) (g : w.grownBy w' row) (hr : row ≠ some s) : ItAt w' s one b S p :=
  (g.block s h.lt (fun e => hr e.symm)).trans h
/-- the blocks of item: the reader, the answer's, its variable's -/
structure ItW (w W : World) (r : Nat) (a : Option Addr) (m cap p p0 : Nat) (l : List UInt8) (one : Bool) (b : UInt8) (S : BitVec 256) : Prop where
  rd : Rd W r a m cap p l
  z : ItAt W w.heap.size false 0 0 0
  x : ItAt W (w.heap.size + 1) one b S p0
  lt : r < w.heap.size
  g : w.grownBy W (some r)
section
variable {w W W' : World} {r : Nat} {a : Option Addr} {m cap p p0 : Nat} {l : List UInt8} {one : Bool} {b : UInt8} {S : BitVec 256}
theorem ItW.mk' (h : Rd w r a m cap p l) : ItW w ((w.alloc (.cells #[.bool false, .int .u8 0, .int .u64 0, .int .u64 0, .int .u64 0, .int .u64 0, .int .i64 0] 122)).alloc (.cells #[.bool true, .int .u8 0, .int .u64 0, .int .u64 0, .int .u64 0, .int .u64 0, .int .i64 p] 122)) r a m cap p p l true 0 0 := by
  refine ⟨(h.alloc _).alloc _, ItAt.kept (show ItAt _ w.heap.size false 0 0 0 from heap_alloc_new w _) (World.grownBy_alloc _ _ none) (by simp), ?_, h.lt, grown_trans (alloc_grown w _ _) (alloc_grown _ _ _)⟩
  have e := heap_alloc_new (w.alloc (.cells #[.bool false, .int .u8 0, .int .u64 0, .int .u64 0, .int .u64 0, .int .u64 0, .int .i64 0] 122)) (.cells #[.bool true, .int .u8 0, .int .u64 0, .int .u64 0, .int .u64 0, .int .u64 0, .int .i64 p] 122)
  rw [show (w.alloc (.cells #[.bool false, .int .u8 0, .int .u64 0, .int .u64 0, .int .u64 0, .int .u64 0, .int .i64 0] 122)).heap.size = w.heap.size + 1 by simp] at e
  exact e
theorem ItW.below (h : ItW w W r a m cap p p0 l one b S) (g : Below W.heap.size W W') : ItW w W' r a m cap p p0 l one b S :=
  ⟨h.rd.below g, (g.block _ h.z.lt).trans h.z, (g.block _ h.x.lt).trans h.x, h.lt, ⟨g.os.trans h.g.os, g.tape.trans h.g.tape, g.output.trans h.g.output, Nat.le_trans h.g.size g.size, fun k hk hne => (g.block k (Nat.lt_of_lt_of_le hk h.g.size)).trans (h.g.block k hk hne)⟩⟩
theorem ItW.drewN (h : ItW w W r a m cap p p0 l one b S) (n : Nat) : ItW w (W.drewN n) r a m cap p p0 l one b S := h.below ⟨rfl, rfl, rfl, Nat.le_refl _, fun _ _ => rfl⟩
theorem ItW.drew (h : ItW w W r a m cap p p0 l one b S) : ItW w W.drew r a m cap p p0 l one b S := h.below (Below.refl _ _).drew
theorem ItW.alloc (h : ItW w W r a m cap p p0 l one b S) (o : Obj) : ItW w (W.alloc o) r a m cap p p0 l one b S := h.below ((Below.refl _ _).alloc (Nat.le_refl _) _)
theorem ItW.move (h : ItW w W r a m cap p p0 l one b S) (p' : Nat) : ItW w (W.setCell ⟨r, 1, none⟩ (.int .i64 p')) r a m cap p' p0 l one b S := by
  have h1 := h.lt
  exact ⟨h.rd.move p', h.z.kept (grown_setCell _ _ _ _) (by intro e; have := Option.some.inj e; omega), h.x.kept (grown_setCell _ _ _ _) (by intro e; have := Option.some.inj e; omega), h.lt, grown_trans h.g (grown_setCell _ _ _ _)⟩
/-- stores into the variable's block -/
theorem ItW.turned (h : ItW w W r a m cap p p0 l one b S) {one' : Bool} {b' : UInt8} {S' : BitVec 256} {p1 : Nat} (g : W.grownBy W' (some (w.heap.size + 1))) (hx : ItAt W' (w.heap.size + 1) one' b' S' p1) : ItW w W' r a m cap p p1 l one' b' S' := by
  have h1 := h.lt
  refine ⟨h.rd.far g (by omega), h.z.kept g (by intro e; have := Option.some.inj e; omega), hx, h.lt, ⟨g.os.trans h.g.os, g.tape.trans h.g.tape, g.output.trans h.g.output, Nat.le_trans h.g.size g.size, fun k hk hne => (g.block k (Nat.lt_of_lt_of_le hk h.g.size) (fun e => by have := Option.some.inj e; omega)).trans (h.g.block k hk hne)⟩⟩
end
theorem ItW.put1 {w W : World} {r : Nat} {a : Option Addr} {m cap p p0 : Nat} {l : List UInt8} {one : Bool} {b : UInt8} {S : BitVec 256} (h : ItW w W r a m cap p p0 l one b S) (c : UInt8) :
    ItW w (W.setCell ⟨w.heap.size + 1, 1, none⟩ (.int .u8 (iv c))) r a m cap p p0 l one c S :=
  h.turned (grown_setCell _ _ _ _) (heap_setCell_at W _ 1 _ 122 (0, 0) _ h.x)
def put4i (W : World) (s : Nat) (S : BitVec 256) : World :=
  (((W.setCell ⟨s, 2, none⟩ (.int .u64 (wd S 0))).setCell ⟨s, 3, none⟩ (.int .u64 (wd S 1))).setCell ⟨s, 4, none⟩ (.int .u64 (wd S 2))).setCell ⟨s, 5, none⟩ (.int .u64 (wd S 3))
theorem ItW.put4 {w W : World} {r : Nat} {a : Option Addr} {m cap p p0 : Nat} {l : List UInt8} {one : Bool} {b : UInt8} {S : BitVec 256} (h : ItW w W r a m cap p p0 l one b S) (S' : BitVec 256) :
    ItW w (put4i W (w.heap.size + 1) S') r a m cap p p0 l one b S' :=
  h.turned (grown_trans (grown_trans (grown_trans (grown_setCell _ _ _ _) (grown_setCell _ _ _ _)) (grown_setCell _ _ _ _)) (grown_setCell _ _ _ _))
    (heap_setCell_at _ _ 5 _ 122 (0, 0) _ (heap_setCell_at _ _ 4 _ 122 (0, 0) _ (heap_setCell_at _ _ 3 _ 122 (0, 0) _ (heap_setCell_at W _ 2 _ 122 (0, 0) _ h.x))))
def put7 (W : World) (s : Nat) (one : Bool) (b : UInt8) (S : BitVec 256) (p : Nat) : World :=
  ((((((W.setCell ⟨s, 0, none⟩ (.bool one)).setCell ⟨s, 1, none⟩ (.int .u8 (iv b))).setCell ⟨s, 2, none⟩ (.int .u64 (wd S 0))).setCell ⟨s, 3, none⟩ (.int .u64 (wd S 1))).setCell ⟨s, 4, none⟩ (.int .u64 (wd S 2))).setCell ⟨s, 5, none⟩ (.int .u64 (wd S 3))).setCell ⟨s, 6, none⟩ (.int .i64 p)
theorem put7_grown (W : World) (s : Nat) (one : Bool) (b : UInt8) (S : BitVec 256) (p : Nat) : W.grownBy (put7 W s one b S p) (some s) :=
  grown_trans (grown_trans (grown_trans (grown_trans (grown_trans (grown_trans (grown_setCell _ _ _ _) (grown_setCell _ _ _ _)) (grown_setCell _ _ _ _)) (grown_setCell _ _ _ _)) (grown_setCell _ _ _ _)) (grown_setCell _ _ _ _)) (grown_setCell _ _ _ _)
theorem put7_at {W : World} {s : Nat} {one0 : Bool} {b0 : UInt8} {S0 : BitVec 256} {p0 : Nat} (h : ItAt W s one0 b0 S0 p0) (one : Bool) (b : UInt8) (S : BitVec 256) (p : Nat) : ItAt (put7 W s one b S p) s one b S p := by
  have h0 : (W.setCell ⟨s, 0, none⟩ (.bool one)).heap[s]? = some (.cells #[.bool one, .int .u8 (iv b0), wv S0 0, wv S0 1, wv S0 2, wv S0 3, .int .i64 p0] 122 (0, 0)) := heap_setCell_at W s 0 #[.bool one0, .int .u8 (iv b0), wv S0 0, wv S0 1, wv S0 2, wv S0 3, .int .i64 p0] 122 (0, 0) _ h
  generalize hw0 : (W.setCell ⟨s, 0, none⟩ (.bool one)) = W0 at h0
  have h1 : (W0.setCell ⟨s, 1, none⟩ (.int .u8 (iv b))).heap[s]? = some (.cells #[.bool one, .int .u8 (iv b), wv S0 0, wv S0 1, wv S0 2, wv S0 3, .int .i64 p0] 122 (0, 0)) := heap_setCell_at _ s 1 #[.bool one, .int .u8 (iv b0), wv S0 0, wv S0 1, wv S0 2, wv S0 3, .int .i64 p0] 122 (0, 0) _ h0
  generalize hw1 : (W0.setCell ⟨s, 1, none⟩ (.int .u8 (iv b))) = W1 at h1
  have h2 : (W1.setCell ⟨s, 2, none⟩ (wv S 0)).heap[s]? = some (.cells #[.bool one, .int .u8 (iv b), wv S 0, wv S0 1, wv S0 2, wv S0 3, .int .i64 p0] 122 (0, 0)) := heap_setCell_at _ s 2 #[.bool one, .int .u8 (iv b), wv S0 0, wv S0 1, wv S0 2, wv S0 3, .int .i64 p0] 122 (0, 0) _ h1
  generalize hw2 : (W1.setCell ⟨s, 2, none⟩ (wv S 0)) = W2 at h2
  have h3 : (W2.setCell ⟨s, 3, none⟩ (wv S 1)).heap[s]? = some (.cells #[.bool one, .int .u8 (iv b), wv S 0, wv S 1, wv S0 2, wv S0 3, .int .i64 p0] 122 (0, 0)) := heap_setCell_at _ s 3 #[.bool one, .int .u8 (iv b), wv S 0, wv S0 1, wv S0 2, wv S0 3, .int .i64 p0] 122 (0, 0) _ h2
  generalize hw3 : (W2.setCell ⟨s, 3, none⟩ (wv S 1)) = W3 at h3
  have h4 : (W3.setCell ⟨s, 4, none⟩ (wv S 2)).heap[s]? = some (.cells #[.bool one, .int .u8 (iv b), wv S 0, wv S 1, wv S 2, wv S0 3, .int .i64 p0] 122 (0, 0)) := heap_setCell_at _ s 4 #[.bool one, .int .u8 (iv b), wv S 0, wv S 1, wv S0 2, wv S0 3, .int .i64 p0] 122 (0, 0) _ h3
  generalize hw4 : (W3.setCell ⟨s, 4, none⟩ (wv S 2)) = W4 at h4
  have h5 : (W4.setCell ⟨s, 5, none⟩ (wv S 3)).heap[s]? = some (.cells #[.bool one, .int .u8 (iv b), wv S 0, wv S 1, wv S 2, wv S 3, .int .i64 p0] 122 (0, 0)) := heap_setCell_at _ s 5 #[.bool one, .int .u8 (iv b), wv S 0, wv S 1, wv S 2, wv S0 3, .int .i64 p0] 122 (0, 0) _ h4
  generalize hw5 : (W4.setCell ⟨s, 5, none⟩ (wv S 3)) = W5 at h5
  have h6 : (W5.setCell ⟨s, 6, none⟩ (.int .i64 p)).heap[s]? = some (.cells #[.bool one, .int .u8 (iv b), wv S 0, wv S 1, wv S 2, wv S 3, .int .i64 p] 122 (0, 0)) := heap_setCell_at _ s 6 #[.bool one, .int .u8 (iv b), wv S 0, wv S 1, wv S 2, wv S 3, .int .i64 p0] 122 (0, 0) _ h5
  subst hw5 hw4 hw3 hw2 hw1 hw0
  exact h6
/-- behind the store of the answer -/
theorem ItW.fin {w W : World} {r : Nat} {a : Option Addr} {m cap p p0 : Nat} {l : List UInt8} {one : Bool} {b : UInt8} {S : BitVec 256} (h : ItW w W r a m cap p p0 l one b S) (one' : Bool) (b' : UInt8) (S' : BitVec 256) (p' : Nat) :
    RdAt (put7 W w.heap.size one' b' S' p') r a m cap p 2 ∧ w.grownBy (put7 W w.heap.size one' b' S' p') (some r) ∧ ItAt (put7 W w.heap.size one' b' S' p') w.heap.size one' b' S' p' := by
  have g := put7_grown W w.heap.size one' b' S' p'
  have h1 := h.lt
  exact ⟨(h.rd.far g h1).rd, ⟨g.os.trans h.g.os, g.tape.trans h.g.tape, g.output.trans h.g.output, Nat.le_trans h.g.size g.size, fun k hk hne => (g.block k (Nat.lt_of_lt_of_le hk h.g.size) (fun e => by have := Option.some.inj e; omega)).trans (h.g.block k hk hne)⟩, put7_at h.z one' b' S' p'⟩
/-- what a fail's region reads -/
theorem ItW.s3 {w W : World} {r : Nat} {a : Option Addr} {m cap p p0 : Nat} {l : List UInt8} {one : Bool} {b : UInt8} {S : BitVec 256} (h : ItW w W r a m cap p p0 l one b S) :
    W.cell? ⟨w.heap.size + 1, 0, none⟩ = some (.bool one) ∧ W.cell? ⟨w.heap.size + 1, 1, none⟩ = some (.int .u8 (iv b)) ∧ W.cell? ⟨w.heap.size + 1, 2, none⟩ = some (.int .u64 (wd S 0)) ∧ W.cell? ⟨w.heap.size + 1, 3, none⟩ = some (.int .u64 (wd S 1)) ∧
    W.cell? ⟨w.heap.size + 1, 4, none⟩ = some (.int .u64 (wd S 2)) ∧ W.cell? ⟨w.heap.size + 1, 5, none⟩ = some (.int .u64 (wd S 3)) ∧ W.cell? ⟨w.heap.size + 1, 6, none⟩ = some (.int .i64 p0) ∧ W.cell? ⟨r, 0, none⟩ = some (.slice a m cap) ∧ W.cell? ⟨r, 1, none⟩ = some (.int .i64 p) := by
  obtain ⟨⟨x0, x1, x2, x3, x4, x5, x6⟩, -⟩ := h.x.cells
  exact ⟨x0, x1, x2, x3, x4, x5, x6, h.rd.cells.1, h.rd.cells.2.1⟩
theorem ItW.s3fin {w W : World} {r : Nat} {a : Option Addr} {m cap p p0 : Nat} {l : List UInt8} {one : Bool} {b : UInt8} {S : BitVec 256} (h : ItW w W r a m cap p p0 l one b S) (one' : Bool) (b' : UInt8) (S' : BitVec 256) (p' : Nat) :
    (put7 W w.heap.size one' b' S' p').cell? ⟨w.heap.size + 1, 0, none⟩ = some (.bool one) ∧ (put7 W w.heap.size one' b' S' p').cell? ⟨w.heap.size + 1, 1, none⟩ = some (.int .u8 (iv b)) ∧ (put7 W w.heap.size one' b' S' p').cell? ⟨w.heap.size + 1, 2, none⟩ = some (.int .u64 (wd S 0)) ∧ (put7 W w.heap.size one' b' S' p').cell? ⟨w.heap.size + 1, 3, none⟩ = some (.int .u64 (wd S 1)) ∧
    (put7 W w.heap.size one' b' S' p').cell? ⟨w.heap.size + 1, 4, none⟩ = some (.int .u64 (wd S 2)) ∧ (put7 W w.heap.size one' b' S' p').cell? ⟨w.heap.size + 1, 5, none⟩ = some (.int .u64 (wd S 3)) ∧ (put7 W w.heap.size one' b' S' p').cell? ⟨w.heap.size + 1, 6, none⟩ = some (.int .i64 p0) ∧ (put7 W w.heap.size one' b' S' p').cell? ⟨r, 0, none⟩ = some (.slice a m cap) ∧ (put7 W w.heap.size one' b' S' p').cell? ⟨r, 1, none⟩ = some (.int .i64 p) := by
  have g := put7_grown W w.heap.size one' b' S' p'
  have h1 := h.lt
  obtain ⟨⟨x0, x1, x2, x3, x4, x5, x6⟩, -⟩ := (h.x.kept g (by intro e; have := Option.some.inj e; omega)).cells
  exact ⟨x0, x1, x2, x3, x4, x5, x6, (h.rd.far g h1).cells.1, (h.rd.far g h1).cells.2.1⟩
theorem cut_some (T : ByteArray) (hT : T.size < 4294967281) (n : List UInt8) (hn : nameS (bl T) = some n) : ∃ N R : ByteArray, bl N = n ∧ N.size ≤ T.size ∧ ∀ W, Glob W → Calls Tryd.prog 88 #[.string T, .string ⟨#[58, 93]⟩] W fun e w' => e = .returned (.tuple #[.string N, .string R, .bool true]) ∧ ∃ n, w' = W.drewN n := by
  have hc := cut_name (bl T)
  rw [hn] at hc
  refine ⟨⟨n.toArray⟩, ⟨(Lib.cut T.data.toList [58, 93]).2.1.toArray⟩, by simp [bl], ?_, fun W hW => ?_⟩
  · have := (name_len hn).1
    have hb := bl_len T
    show n.toArray.size ≤ _
    simp; omega
  · obtain ⟨-, k, hk⟩ := hW
    have h := cut_any T ⟨#[58, 93]⟩ k W hT hk
    rw [show (Lib.cut T.data.toList (ByteArray.mk #[58, 93]).data.toList).1 = n from hc.1, show (Lib.cut T.data.toList (ByteArray.mk #[58, 93]).data.toList).2.2 = true from hc.2] at h
    exact h
theorem cut_none (T : ByteArray) (hT : T.size < 4294967281) (hn : nameS (bl T) = none) : ∃ N R : ByteArray, N.size ≤ T.size ∧ ∀ W, Glob W → Calls Tryd.prog 88 #[.string T, .string ⟨#[58, 93]⟩] W fun e w' => e = .returned (.tuple #[.string N, .string R, .bool false]) ∧ ∃ n, w' = W.drewN n := by
  have hc := cut_name (bl T)
  rw [hn] at hc
  refine ⟨T, ⟨(Lib.cut T.data.toList [58, 93]).2.1.toArray⟩, Nat.le_refl _, fun W hW => ?_⟩
  obtain ⟨-, k, hk⟩ := hW
  have h := cut_any T ⟨#[58, 93]⟩ k W hT hk
  rw [show (Lib.cut T.data.toList (ByteArray.mk #[58, 93]).data.toList).1 = T.data.toList from hc.1, show (Lib.cut T.data.toList (ByteArray.mk #[58, 93]).data.toList).2.2 = false from hc.2] at h
  exact h
theorem heap_alloc_len (w : World) (o : Obj) : (w.alloc o).heap.size = w.heap.size + 1 := by simp
/-- what the loads of item read -/
theorem ItW.s15 {w W : World} {r bb off m cap p p0 : Nat} {l : List UInt8} {one : Bool} {b c : UInt8} {S : BitVec 256} {t : List UInt8} (h : ItW w W r (some ⟨bb, off, none⟩) m cap p p0 l one b S) (hd : l.drop p = c :: t) :
    W.cell? ⟨r, 0, none⟩ = some (.slice (some ⟨bb, off, none⟩) m cap) ∧ W.cell? ⟨r, 1, none⟩ = some (.int .i64 p) ∧ W.cell? ⟨bb, off + p, none⟩ = some (.int .u8 (iv c)) ∧
    (convert 22 9 (.slice (some ⟨bb, off + p, none⟩) 1 (cap - p))).run Tryd.prog W = .ok (.string ⟨#[c]⟩) W := by
  have hl := (drop_lt c t hd).1
  have hb := h.rd.byte hl
  rw [get_drop hd hl] at hb
  refine ⟨h.rd.cells.1, h.rd.cells.2.1, hb, conv_cells W bb (off + p) 1 (cap - p) [c] rfl fun i hi => ?_⟩
  simp at hi; subst hi
  exact hb

set_option maxRecDepth 100000 in
set_option maxHeartbeats 1600000 in
theorem item_byte (w : World) (r : Nat) (a : Option Addr) (m cap p : Nat) (l : List UInt8) (c : UInt8) (t : List UInt8) (hr : Rd w r a m cap p l) (hd : l.drop p = c :: t)
    (h1 : c = 91 → t.head? ≠ some 46 ∧ t.head? ≠ some 61 ∧ t.head? ≠ some 58) (h2 : c ≠ 92) :
    Calls Tryd.prog 78 #[.pointer (some ⟨r, 0, none⟩)] w fun e w' => e = .returned (.tuple #[itV true c (bit c.toNat) p, .nilIface]) ∧ RdAt w' r a m cap (p + 1) 2 ∧ w.grownBy w' (some r) := by
  have b4 : stI l (p : Int) 92 = false := st0_false hd (fun e => h2 (iv_inj e))
  obtain ⟨hlt, hlen, hdn⟩ := drop_lt c t hd
  obtain ⟨bb, off, rfl⟩ : ∃ bb off, a = some ⟨bb, off, none⟩ := by
    rcases hr.b with h | ⟨bb, off, h, -⟩
    · subst h; simp at hlt
    · exact ⟨bb, off, h⟩
  obtain ⟨r0, r1, r2, rf⟩ := hr.cells
  have hrl := hr.lt
  have hpm : p < m := by have := hr.hm; omega
  have hmc : m ≤ cap := hr.ms
  have hcs := hr.cs
  have HW := Lib.hid (ItW.mk' hr)
  have i1 : (0 : Int) ≤ (p : Int) := by omega
  have i2 : (p : Int) < (m : Int) := by omega
  have i3 : (p : Int) + 1 ≤ (cap : Int) := by omega
  have i4 : IntKind.i64.wrap ((p : Int) + 1) = (p : Int) + 1 := by rw [IntKind.wrap_i64]; omega
  have hsl := slice_one bb off m cap p (by omega)
  have HD := Lib.hid hd
  by_cases hc : c = 91
  · have b0 : stI l (p : Int) 91 = true := st0_true hd (by rw [hc]; rfl)
    have b1 : stI l ((p : Int) + 1) 46 = false := st1_false hd (fun d e h => (h1 hc).1 (by rw [e, iv_inj (b := 46) h]))
    have b2 : stI l ((p : Int) + 1) 61 = false := st1_false hd (fun d e h => (h1 hc).2.1 (by rw [e, iv_inj (b := 61) h]))
    have b3 : stI l ((p : Int) + 1) 58 = false := st1_false hd (fun d e h => (h1 hc).2.2 (by rw [e, iv_inj (b := 58) h]))
    clear hd hc h1 h2 hlt hlen hdn
    go_enter Tryd.func78, Tryd.ntmps78
    go_upto_region 2 with fail
    generalize ((w.alloc (.cells #[.bool false, .int .u8 0, .int .u64 0, .int .u64 0, .int .u64 0, .int .u64 0, .int .i64 0] 122)).alloc (.cells #[.bool true, .int .u8 0, .int .u64 0, .int .u64 0, .int .u64 0, .int .u64 0, .int .i64 p] 122)) = W0 at *
    go_wp2_with (go_at_call 77; refine (Rd.is (by first | exact HW.out.rd | exact HW.out.rd.drewN _) (Nat.le_of_lt hpm) _ _ (by omega) (by omega) (by omega) (by omega)).mono ?_; rintro e w' ⟨rfl, q, rfl⟩)
    obtain ⟨⟨x0, x1, x2, x3, x4, x5, x6⟩, f0, f1, f2, f3, f4, f5, f6⟩ := HW.out.x.cells
    go_region_held3 (fun W => W.cell? ⟨r, 0, none⟩ = some (.slice (some ⟨bb, off, none⟩) m cap) ∧ W.cell? ⟨r, 1, none⟩ = some (.int .i64 p) ∧ W.cell? ⟨bb, off + p, none⟩ = some (.int .u8 (iv c)) ∧
      (convert 22 9 (.slice (some ⟨bb, off + p, none⟩) 1 (cap - p))).run Tryd.prog W = .ok (.string ⟨#[c]⟩) W) (first | exact ItW.s15 (HW.out.drewN _) HD.out | exact ItW.s15 (HW.out.drewN _).drew HD.out | exact ItW.s15 ((HW.out.drewN _).put1 c) HD.out | exact ItW.s15 ((HW.out.drewN _).drew.put1 c) HD.out) (fail)
    clear x0 x1 x2 x3 x4 x5 x6 f0 f1 f2 f3 f4 f5 f6
    rename_i hHeld
    clear hHeld
    have HOF := Lib.hid (fun w => of_any ⟨#[c]⟩ w (by show (1 : Nat) ≤ _; omega))
    rw [show ofS (bl ⟨#[c]⟩) = bit c.toNat from ofS_one c] at HOF
    generalize hS : bit c.toNat = S at *
    have HS := Lib.hid hS
    clear hS
    unfold setV wv at HOF
    go_wp2_with fail
    go_region_held3 (fun W => W.cell? ⟨r, 0, none⟩ = some (.slice (some ⟨bb, off, none⟩) m cap) ∧ W.cell? ⟨r, 1, none⟩ = some (.int .i64 p) ∧ W.cell? ⟨bb, off + p, none⟩ = some (.int .u8 (iv c)) ∧
      (convert 22 9 (.slice (some ⟨bb, off + p, none⟩) 1 (cap - p))).run Tryd.prog W = .ok (.string ⟨#[c]⟩) W)
      (first | exact ItW.s15 (H5.out.put4 S) HD.out | exact ItW.s15 H5.out HD.out | exact ItW.s15 ((HW.out.drewN _).put1 c) HD.out | exact ItW.s15 ((HW.out.drewN _).put1 c).drew HD.out)
      ((go_at_call 40; refine (HOF.out _).mono ?_; rintro e w5 ⟨rfl, b5⟩; have H5 := Lib.hid (((HW.out.drewN _).put1 c).drew.below b5); clear b5; obtain ⟨⟨x0, x1, x2, x3, x4, x5, x6⟩, f0, f1, f2, f3, f4, f5, f6⟩ := H5.out.x.cells))
    clear x0 x1 x2 x3 x4 x5 x6 f0 f1 f2 f3 f4 f5 f6
    rename_i hHeld
    clear hHeld
    have H6 := Lib.hid (H5.out.put4 S)
    change Exit.then _ _ _ _ (put4i w5 (w.heap.size + 1) S)
    generalize put4i w5 (w.heap.size + 1) S = W6 at *
    obtain ⟨⟨x0, x1, x2, x3, x4, x5, x6⟩, -⟩ := H6.out.x.cells
    obtain ⟨⟨z0, z1, z2, z3, z4, z5, z6⟩, zf0, zf1, zf2, zf3, zf4, zf5, zf6⟩ := H6.out.z.cells
    obtain ⟨y0, y1, y2, yf⟩ := H6.out.rd.cells
    have n1 : ¬ r = w.heap.size + 1 := by omega
    have n2 : ¬ r = w.heap.size := by omega
    have n3 : ¬ w.heap.size = r := by omega
    have n4 : ¬ w.heap.size + 1 = r := by omega
    go_wp2_with fail
    have H7 := Lib.hid (H6.out.move (p + 1))
    have HF := Lib.hid (H7.out.fin true c S p)
    change bodyPost _ _ _ _ _ (put7 (W6.setCell ⟨r, 1, none⟩ (.int .i64 ((p + 1 : Nat) : Int))) w.heap.size true c S p)
    generalize put7 (W6.setCell ⟨r, 1, none⟩ (.int .i64 ((p + 1 : Nat) : Int))) w.heap.size true c S p = W8 at *
    obtain ⟨⟨v0, v1, v2, v3, v4, v5, v6⟩, -⟩ := HF.out.2.2.cells
    refine bodyPost_ret (v := .tuple #[itV true c S p, .nilIface]) (by simp [results, Tryd.results78, go_sem, v0, v1, v2, v3, v4, v5, v6, itV, wv]) rfl ?_
    rw [HS.out]
    exact ⟨rfl, HF.out.1, HF.out.2.1⟩
  · have b0 : stI l (p : Int) 91 = false := st0_false hd (fun e => hc (iv_inj e))
    clear hd hc h1 h2 hlt hlen hdn
    go_enter Tryd.func78, Tryd.ntmps78
    go_upto_region 2 with fail
    generalize ((w.alloc (.cells #[.bool false, .int .u8 0, .int .u64 0, .int .u64 0, .int .u64 0, .int .u64 0, .int .i64 0] 122)).alloc (.cells #[.bool true, .int .u8 0, .int .u64 0, .int .u64 0, .int .u64 0, .int .u64 0, .int .i64 p] 122)) = W0 at *
    go_wp2_with (go_at_call 77; refine (Rd.is (by first | exact HW.out.rd | exact HW.out.rd.drewN _) (Nat.le_of_lt hpm) _ _ (by omega) (by omega) (by omega) (by omega)).mono ?_; rintro e w' ⟨rfl, q, rfl⟩)
    obtain ⟨⟨x0, x1, x2, x3, x4, x5, x6⟩, f0, f1, f2, f3, f4, f5, f6⟩ := HW.out.x.cells
    go_region_held3 (fun W => W.cell? ⟨r, 0, none⟩ = some (.slice (some ⟨bb, off, none⟩) m cap) ∧ W.cell? ⟨r, 1, none⟩ = some (.int .i64 p) ∧ W.cell? ⟨bb, off + p, none⟩ = some (.int .u8 (iv c)) ∧
      (convert 22 9 (.slice (some ⟨bb, off + p, none⟩) 1 (cap - p))).run Tryd.prog W = .ok (.string ⟨#[c]⟩) W) (first | exact ItW.s15 (HW.out.drewN _) HD.out | exact ItW.s15 (HW.out.drewN _).drew HD.out | exact ItW.s15 ((HW.out.drewN _).put1 c) HD.out | exact ItW.s15 ((HW.out.drewN _).drew.put1 c) HD.out) (fail)
    clear x0 x1 x2 x3 x4 x5 x6 f0 f1 f2 f3 f4 f5 f6
    rename_i hHeld
    clear hHeld
    have HOF := Lib.hid (fun w => of_any ⟨#[c]⟩ w (by show (1 : Nat) ≤ _; omega))
    rw [show ofS (bl ⟨#[c]⟩) = bit c.toNat from ofS_one c] at HOF
    generalize hS : bit c.toNat = S at *
    have HS := Lib.hid hS
    clear hS
    unfold setV wv at HOF
    go_wp2_with fail
    go_region_held3 (fun W => W.cell? ⟨r, 0, none⟩ = some (.slice (some ⟨bb, off, none⟩) m cap) ∧ W.cell? ⟨r, 1, none⟩ = some (.int .i64 p) ∧ W.cell? ⟨bb, off + p, none⟩ = some (.int .u8 (iv c)) ∧
      (convert 22 9 (.slice (some ⟨bb, off + p, none⟩) 1 (cap - p))).run Tryd.prog W = .ok (.string ⟨#[c]⟩) W)
      (first | exact ItW.s15 (H5.out.put4 S) HD.out | exact ItW.s15 H5.out HD.out | exact ItW.s15 ((HW.out.drewN _).put1 c) HD.out | exact ItW.s15 ((HW.out.drewN _).put1 c).drew HD.out)
      ((go_at_call 40; refine (HOF.out _).mono ?_; rintro e w5 ⟨rfl, b5⟩; have H5 := Lib.hid (((HW.out.drewN _).put1 c).drew.below b5); clear b5; obtain ⟨⟨x0, x1, x2, x3, x4, x5, x6⟩, f0, f1, f2, f3, f4, f5, f6⟩ := H5.out.x.cells))
    clear x0 x1 x2 x3 x4 x5 x6 f0 f1 f2 f3 f4 f5 f6
    rename_i hHeld
    clear hHeld
    have H6 := Lib.hid (H5.out.put4 S)
    change Exit.then _ _ _ _ (put4i w5 (w.heap.size + 1) S)
    generalize put4i w5 (w.heap.size + 1) S = W6 at *
    obtain ⟨⟨x0, x1, x2, x3, x4, x5, x6⟩, -⟩ := H6.out.x.cells
    obtain ⟨⟨z0, z1, z2, z3, z4, z5, z6⟩, zf0, zf1, zf2, zf3, zf4, zf5, zf6⟩ := H6.out.z.cells
    obtain ⟨y0, y1, y2, yf⟩ := H6.out.rd.cells
    have n1 : ¬ r = w.heap.size + 1 := by omega
    have n2 : ¬ r = w.heap.size := by omega
    have n3 : ¬ w.heap.size = r := by omega
    have n4 : ¬ w.heap.size + 1 = r := by omega
    go_wp2_with fail
    have H7 := Lib.hid (H6.out.move (p + 1))
    have HF := Lib.hid (H7.out.fin true c S p)
    change bodyPost _ _ _ _ _ (put7 (W6.setCell ⟨r, 1, none⟩ (.int .i64 ((p + 1 : Nat) : Int))) w.heap.size true c S p)
    generalize put7 (W6.setCell ⟨r, 1, none⟩ (.int .i64 ((p + 1 : Nat) : Int))) w.heap.size true c S p = W8 at *
    obtain ⟨⟨v0, v1, v2, v3, v4, v5, v6⟩, -⟩ := HF.out.2.2.cells
    refine bodyPost_ret (v := .tuple #[itV true c S p, .nilIface]) (by simp [results, Tryd.results78, go_sem, v0, v1, v2, v3, v4, v5, v6, itV, wv]) rfl ?_
    rw [HS.out]
    exact ⟨rfl, HF.out.1, HF.out.2.1⟩

set_option maxRecDepth 100000 in
set_option maxHeartbeats 1600000 in
theorem item_esc (w : World) (r : Nat) (a : Option Addr) (m cap p : Nat) (l : List UInt8) (c : UInt8) (d : UInt8) (u : List UInt8) (hr : Rd w r a m cap p l) (hd : l.drop p = c :: d :: u)
    (h2 : c = 92) :
    Calls Tryd.prog 78 #[.pointer (some ⟨r, 0, none⟩)] w fun e w' => e = .returned (.tuple #[itV true d (bit d.toNat) p, .nilIface]) ∧ RdAt w' r a m cap (p + 2) 2 ∧ w.grownBy w' (some r) := by
  have b4 : stI l (p : Int) 92 = true := st0_true hd (by rw [h2]; rfl)
  have b0 : stI l (p : Int) 91 = false := st0_false hd (by rw [h2]; decide)
  obtain ⟨hlt, hlen, hdn⟩ := drop_lt c (d :: u) hd
  obtain ⟨bb, off, rfl⟩ : ∃ bb off, a = some ⟨bb, off, none⟩ := by
    rcases hr.b with h | ⟨bb, off, h, -⟩
    · subst h; simp at hlt
    · exact ⟨bb, off, h⟩
  obtain ⟨r0, r1, r2, rf⟩ := hr.cells
  have hrl := hr.lt
  have hpm : p < m := by have := hr.hm; omega
  have hmc : m ≤ cap := hr.ms
  have hcs := hr.cs
  have HW := Lib.hid (ItW.mk' hr)
  have i1 : (0 : Int) ≤ (p : Int) := by omega
  have i2 : (p : Int) < (m : Int) := by omega
  have i3 : (p : Int) + 1 ≤ (cap : Int) := by omega
  have i4 : IntKind.i64.wrap ((p : Int) + 1) = (p : Int) + 1 := by rw [IntKind.wrap_i64]; omega
  obtain ⟨k, hk⟩ : ∃ k : Nat, k = p + 1 := ⟨_, rfl⟩
  rw [← hk] at hdn
  have HD := Lib.hid hdn
  have HK := Lib.hid hk
  have hq : k < m := by have := hr.hm; simp at hlen; omega
  have hpk : (p : Int) + 1 = (k : Int) := by omega
  rw [hpk] at i3 i4
  have hD : decide ((m : Int) ≤ (k : Int)) = false := by simp; omega
  have hI : ¬ ((m : Int) ≤ (k : Int)) := by omega
  have j1 : (0 : Int) ≤ (k : Int) := by omega
  have j2 : (k : Int) < (m : Int) := by omega
  have j3 : (k : Int) + 1 ≤ (cap : Int) := by omega
  have j4 : IntKind.i64.wrap ((k : Int) + 1) = (k : Int) + 1 := by rw [IntKind.wrap_i64]; omega
  have hsl := slice_one bb off m cap k (by omega)
  have HMV := Lib.hid (fun W n q (h : ItW w W r (some ⟨bb, off, none⟩) m cap p p l true 0 0) => ((h.drewN n).move k).drewN q)
  clear hd h2 hlt hlen hdn hk
  go_enter Tryd.func78, Tryd.ntmps78
  go_upto_region 2 with fail
  generalize ((w.alloc (.cells #[.bool false, .int .u8 0, .int .u64 0, .int .u64 0, .int .u64 0, .int .u64 0, .int .i64 0] 122)).alloc (.cells #[.bool true, .int .u8 0, .int .u64 0, .int .u64 0, .int .u64 0, .int .u64 0, .int .i64 p] 122)) = W0 at *
  obtain ⟨y0, y1, y2, yf⟩ := HW.out.rd.cells
  have n1 : ¬ r = w.heap.size + 1 := by omega
  have n2 : ¬ r = w.heap.size := by omega
  have n3 : ¬ w.heap.size = r := by omega
  have n4 : ¬ w.heap.size + 1 = r := by omega
  go_wp2_with (go_at_call 77; refine (Rd.is (by first | exact HW.out.rd | exact HW.out.rd.drewN _) (Nat.le_of_lt hpm) _ _ (by omega) (by omega) (by omega) (by omega)).mono ?_; rintro e w' ⟨rfl, q, rfl⟩)
  go_quiet (fail)
  go_wp2_with fail
  obtain ⟨⟨x0, x1, x2, x3, x4, x5, x6⟩, f0, f1, f2, f3, f4, f5, f6⟩ := HW.out.x.cells
  go_region_held3 (fun W => W.cell? ⟨r, 0, none⟩ = some (.slice (some ⟨bb, off, none⟩) m cap) ∧ W.cell? ⟨r, 1, none⟩ = some (.int .i64 k) ∧ W.cell? ⟨bb, off + k, none⟩ = some (.int .u8 (iv d)) ∧
    (convert 22 9 (.slice (some ⟨bb, off + k, none⟩) 1 (cap - k))).run Tryd.prog W = .ok (.string ⟨#[d]⟩) W) (first | exact ItW.s15 (HMV.out W0 _ _ HW.out) HD.out | exact ItW.s15 (HMV.out W0 _ _ HW.out).drew HD.out | exact ItW.s15 ((HMV.out W0 _ _ HW.out).put1 d) HD.out | exact ItW.s15 ((HMV.out W0 _ _ HW.out).drew.put1 d) HD.out) (fail)
  clear x0 x1 x2 x3 x4 x5 x6 f0 f1 f2 f3 f4 f5 f6
  rename_i hHeld
  clear hHeld
  have HOF := Lib.hid (fun w => of_any ⟨#[d]⟩ w (by show (1 : Nat) ≤ _; omega))
  rw [show ofS (bl ⟨#[d]⟩) = bit d.toNat from ofS_one d] at HOF
  generalize hS : bit d.toNat = S at *
  have HS := Lib.hid hS
  clear hS
  unfold setV wv at HOF
  go_wp2_with fail
  go_region_held3 (fun W => W.cell? ⟨r, 0, none⟩ = some (.slice (some ⟨bb, off, none⟩) m cap) ∧ W.cell? ⟨r, 1, none⟩ = some (.int .i64 k) ∧ W.cell? ⟨bb, off + k, none⟩ = some (.int .u8 (iv d)) ∧
    (convert 22 9 (.slice (some ⟨bb, off + k, none⟩) 1 (cap - k))).run Tryd.prog W = .ok (.string ⟨#[d]⟩) W)
    (first | exact ItW.s15 (H5.out.put4 S) HD.out | exact ItW.s15 H5.out HD.out | exact ItW.s15 ((HMV.out W0 _ _ HW.out).put1 d) HD.out | exact ItW.s15 ((HMV.out W0 _ _ HW.out).put1 d).drew HD.out)
    ((go_at_call 40; refine (HOF.out _).mono ?_; rintro e w5 ⟨rfl, b5⟩; have H5 := Lib.hid (((HMV.out W0 _ _ HW.out).put1 d).drew.below b5); clear b5; obtain ⟨⟨x0, x1, x2, x3, x4, x5, x6⟩, f0, f1, f2, f3, f4, f5, f6⟩ := H5.out.x.cells))
  clear x0 x1 x2 x3 x4 x5 x6 f0 f1 f2 f3 f4 f5 f6
  rename_i hHeld
  clear hHeld
  have H6 := Lib.hid (H5.out.put4 S)
  change Exit.then _ _ _ _ (put4i w5 (w.heap.size + 1) S)
  generalize put4i w5 (w.heap.size + 1) S = W6 at *
  obtain ⟨⟨x0, x1, x2, x3, x4, x5, x6⟩, -⟩ := H6.out.x.cells
  obtain ⟨⟨z0, z1, z2, z3, z4, z5, z6⟩, zf0, zf1, zf2, zf3, zf4, zf5, zf6⟩ := H6.out.z.cells
  clear y0 y1 y2 yf
  obtain ⟨y0, y1, y2, yf⟩ := H6.out.rd.cells
  go_wp2_with fail
  have H7 := Lib.hid (H6.out.move (k + 1))
  have HF := Lib.hid (H7.out.fin true d S p)
  change bodyPost _ _ _ _ _ (put7 (W6.setCell ⟨r, 1, none⟩ (.int .i64 ((k + 1 : Nat) : Int))) w.heap.size true d S p)
  generalize put7 (W6.setCell ⟨r, 1, none⟩ (.int .i64 ((k + 1 : Nat) : Int))) w.heap.size true d S p = W8 at *
  obtain ⟨⟨v0, v1, v2, v3, v4, v5, v6⟩, -⟩ := HF.out.2.2.cells
  refine bodyPost_ret (v := .tuple #[itV true d S p, .nilIface]) (by simp [results, Tryd.results78, go_sem, v0, v1, v2, v3, v4, v5, v6, itV, wv]) rfl ?_
  rw [HS.out]
  rw [show p + 2 = k + 1 by rw [HK.out]]
  exact ⟨rfl, HF.out.1, HF.out.2.1⟩

set_option maxRecDepth 100000 in
set_option maxHeartbeats 1600000 in
theorem item_dot (w : World) (r : Nat) (a : Option Addr) (m cap p : Nat) (l : List UInt8) (c : UInt8) (t : List UInt8) (hr : Rd w r a m cap p l) (hd : l.drop p = c :: t) (h1 : c = 91) (h2 : t.head? = some 46 ∨ t.head? = some 61) :
    Calls Tryd.prog 78 #[.pointer (some ⟨r, 0, none⟩)] w fun e w' => (∃ t' v', e = .returned (.tuple #[itV true 0 0 p, .iface t' v'])) ∧ w.grownBy w' (some r) := by
  have b0 : stI l (p : Int) 91 = true := st0_true hd (by rw [h1]; rfl)
  obtain ⟨hlt, hlen, hdn⟩ := drop_lt c t hd
  obtain ⟨bb, off, rfl⟩ : ∃ bb off, a = some ⟨bb, off, none⟩ := by
    rcases hr.b with h | ⟨bb, off, h, -⟩
    · subst h; simp at hlt
    · exact ⟨bb, off, h⟩
  obtain ⟨r0, r1, r2, rf⟩ := hr.cells
  have hrl := hr.lt
  have hpm : p < m := by have := hr.hm; omega
  have hmc : m ≤ cap := hr.ms
  have hcs := hr.cs
  obtain ⟨Z, hZ⟩ : ∃ Z : BitVec 256, Z = 0 := ⟨_, rfl⟩
  have HW := Lib.hid (show ItW w _ r _ m cap p p l true 0 Z from by rw [hZ]; exact ItW.mk' hr)
  have HZ := Lib.hid hZ
  clear hZ
  have i1 : (0 : Int) ≤ (p : Int) := by omega
  have i2 : (p : Int) < (m : Int) := by omega
  have i3 : (p : Int) + 1 ≤ (cap : Int) := by omega
  have i4 : IntKind.i64.wrap ((p : Int) + 1) = (p : Int) + 1 := by rw [IntKind.wrap_i64]; omega
  have HD := Lib.hid hd
  rcases h2 with h2 | h2
  · have b1 : stI l ((p : Int) + 1) 46 = true := st1_true hd h2 rfl
    clear hd h1 h2 hlt hlen hdn
    go_enter Tryd.func78, Tryd.ntmps78
    go_upto_region 2 with fail
    generalize ((w.alloc (.cells #[.bool false, .int .u8 0, .int .u64 0, .int .u64 0, .int .u64 0, .int .u64 0, .int .i64 0] 122)).alloc (.cells #[.bool true, .int .u8 0, .int .u64 0, .int .u64 0, .int .u64 0, .int .u64 0, .int .i64 p] 122)) = W0 at *
    go_wp2_with (go_at_call 77; refine (Rd.is (by first | exact HW.out.rd | exact HW.out.rd.drewN _) (Nat.le_of_lt hpm) _ _ (by omega) (by omega) (by omega) (by omega)).mono ?_; rintro e w' ⟨rfl, q, rfl⟩)
    go_region_held3 (fun W => W.cell? ⟨w.heap.size + 1, 0, none⟩ = some (.bool true) ∧ W.cell? ⟨w.heap.size + 1, 1, none⟩ = some (.int .u8 (iv 0)) ∧ W.cell? ⟨w.heap.size + 1, 2, none⟩ = some (.int .u64 (wd Z 0)) ∧ W.cell? ⟨w.heap.size + 1, 3, none⟩ = some (.int .u64 (wd Z 1)) ∧
      W.cell? ⟨w.heap.size + 1, 4, none⟩ = some (.int .u64 (wd Z 2)) ∧ W.cell? ⟨w.heap.size + 1, 5, none⟩ = some (.int .u64 (wd Z 3)) ∧ W.cell? ⟨w.heap.size + 1, 6, none⟩ = some (.int .i64 p) ∧ W.cell? ⟨r, 0, none⟩ = some (.slice (some ⟨bb, off, none⟩) m cap) ∧ W.cell? ⟨r, 1, none⟩ = some (.int .i64 p)) (first | with_reducible exact H6.out | with_reducible exact H5.out.s3 | with_reducible exact (HW.out.drewN _).s3 | with_reducible exact (HW.out.drewN _).drew.s3)
      ((go_at_call 63; refine ((HW.out.drewN _).drew.rd.fail _ (by omega) (by omega) _).mono ?_; rintro e w5 ⟨⟨t', v', rfl⟩, b5⟩; have H5 := Lib.hid ((HW.out.drewN _).drew.below b5); clear b5; obtain ⟨⟨z0, z1, z2, z3, z4, z5, z6⟩, zf0, zf1, zf2, zf3, zf4, zf5, zf6⟩ := H5.out.z.cells; have H6 := Lib.hid (H5.out.s3fin true 0 Z p); unfold put7 at H6))
    have HF := Lib.hid (H5.out.fin true 0 Z p)
    rename_i hHeld
    clear hHeld
    change Exit.then _ _ _ _ (put7 w5 w.heap.size true 0 Z p)
    generalize put7 w5 w.heap.size true 0 Z p = W8 at *
    obtain ⟨⟨v0, v1, v2, v3, v4, v5, v6⟩, -⟩ := HF.out.2.2.cells
    go_wp2_with fail
    refine bodyPost_ret (v := .tuple #[itV true 0 Z p, .iface t' v']) (by simp [results, Tryd.results78, go_sem, v0, v1, v2, v3, v4, v5, v6, itV, wv]) rfl ?_
    rw [HZ.out]
    exact ⟨⟨_, _, rfl⟩, HF.out.2.1⟩
  · have b1 : stI l ((p : Int) + 1) 46 = false := st1_false hd (fun d e h => by rw [h2] at e; have := Option.some.inj e; subst this; exact absurd h (by decide))
    have b2 : stI l ((p : Int) + 1) 61 = true := st1_true hd h2 rfl
    clear hd h1 h2 hlt hlen hdn
    go_enter Tryd.func78, Tryd.ntmps78
    go_upto_region 2 with fail
    generalize ((w.alloc (.cells #[.bool false, .int .u8 0, .int .u64 0, .int .u64 0, .int .u64 0, .int .u64 0, .int .i64 0] 122)).alloc (.cells #[.bool true, .int .u8 0, .int .u64 0, .int .u64 0, .int .u64 0, .int .u64 0, .int .i64 p] 122)) = W0 at *
    go_wp2_with (go_at_call 77; refine (Rd.is (by first | exact HW.out.rd | exact HW.out.rd.drewN _) (Nat.le_of_lt hpm) _ _ (by omega) (by omega) (by omega) (by omega)).mono ?_; rintro e w' ⟨rfl, q, rfl⟩)
    go_region_held3 (fun W => W.cell? ⟨w.heap.size + 1, 0, none⟩ = some (.bool true) ∧ W.cell? ⟨w.heap.size + 1, 1, none⟩ = some (.int .u8 (iv 0)) ∧ W.cell? ⟨w.heap.size + 1, 2, none⟩ = some (.int .u64 (wd Z 0)) ∧ W.cell? ⟨w.heap.size + 1, 3, none⟩ = some (.int .u64 (wd Z 1)) ∧
      W.cell? ⟨w.heap.size + 1, 4, none⟩ = some (.int .u64 (wd Z 2)) ∧ W.cell? ⟨w.heap.size + 1, 5, none⟩ = some (.int .u64 (wd Z 3)) ∧ W.cell? ⟨w.heap.size + 1, 6, none⟩ = some (.int .i64 p) ∧ W.cell? ⟨r, 0, none⟩ = some (.slice (some ⟨bb, off, none⟩) m cap) ∧ W.cell? ⟨r, 1, none⟩ = some (.int .i64 p)) (first | with_reducible exact H6.out | with_reducible exact H5.out.s3 | with_reducible exact (HW.out.drewN _).s3 | with_reducible exact (HW.out.drewN _).drew.s3)
      ((go_at_call 63; refine ((HW.out.drewN _).drew.rd.fail _ (by omega) (by omega) _).mono ?_; rintro e w5 ⟨⟨t', v', rfl⟩, b5⟩; have H5 := Lib.hid ((HW.out.drewN _).drew.below b5); clear b5; obtain ⟨⟨z0, z1, z2, z3, z4, z5, z6⟩, zf0, zf1, zf2, zf3, zf4, zf5, zf6⟩ := H5.out.z.cells; have H6 := Lib.hid (H5.out.s3fin true 0 Z p); unfold put7 at H6))
    have HF := Lib.hid (H5.out.fin true 0 Z p)
    rename_i hHeld
    clear hHeld
    change Exit.then _ _ _ _ (put7 w5 w.heap.size true 0 Z p)
    generalize put7 w5 w.heap.size true 0 Z p = W8 at *
    obtain ⟨⟨v0, v1, v2, v3, v4, v5, v6⟩, -⟩ := HF.out.2.2.cells
    go_wp2_with fail
    refine bodyPost_ret (v := .tuple #[itV true 0 Z p, .iface t' v']) (by simp [results, Tryd.results78, go_sem, v0, v1, v2, v3, v4, v5, v6, itV, wv]) rfl ?_
    rw [HZ.out]
    exact ⟨⟨_, _, rfl⟩, HF.out.2.1⟩

set_option maxRecDepth 100000 in
set_option maxHeartbeats 1600000 in
theorem item_end (w : World) (r : Nat) (a : Option Addr) (m cap p : Nat) (l : List UInt8) (c : UInt8) (hr : Rd w r a m cap p l) (hd : l.drop p = [c]) (h2 : c = 92) :
    Calls Tryd.prog 78 #[.pointer (some ⟨r, 0, none⟩)] w fun e w' => (∃ t' v', e = .returned (.tuple #[itV true 0 0 p, .iface t' v'])) ∧ w.grownBy w' (some r) := by
  have b4 : stI l (p : Int) 92 = true := st0_true hd (by rw [h2]; rfl)
  have b0 : stI l (p : Int) 91 = false := st0_false hd (by rw [h2]; decide)
  obtain ⟨hlt, hlen, hdn⟩ := drop_lt c [] hd
  obtain ⟨bb, off, rfl⟩ : ∃ bb off, a = some ⟨bb, off, none⟩ := by
    rcases hr.b with h | ⟨bb, off, h, -⟩
    · subst h; simp at hlt
    · exact ⟨bb, off, h⟩
  obtain ⟨r0, r1, r2, rf⟩ := hr.cells
  have hrl := hr.lt
  have hpm : p < m := by have := hr.hm; omega
  have hmc : m ≤ cap := hr.ms
  have hcs := hr.cs
  obtain ⟨Z, hZ⟩ : ∃ Z : BitVec 256, Z = 0 := ⟨_, rfl⟩
  have HW := Lib.hid (show ItW w _ r _ m cap p p l true 0 Z from by rw [hZ]; exact ItW.mk' hr)
  have HZ := Lib.hid hZ
  clear hZ
  have i1 : (0 : Int) ≤ (p : Int) := by omega
  have i2 : (p : Int) < (m : Int) := by omega
  have i3 : (p : Int) + 1 ≤ (cap : Int) := by omega
  have i4 : IntKind.i64.wrap ((p : Int) + 1) = (p : Int) + 1 := by rw [IntKind.wrap_i64]; omega
  obtain ⟨k, hk⟩ : ∃ k : Nat, k = p + 1 := ⟨_, rfl⟩
  have hq : k = m := by have := hr.hm; simp at hlen; omega
  have hpk : (p : Int) + 1 = (k : Int) := by omega
  rw [hpk] at i3 i4
  have hD : decide ((m : Int) ≤ (k : Int)) = true := by simp; omega
  have hI : (m : Int) ≤ (k : Int) := by omega
  have HMV := Lib.hid (fun W n q (h : ItW w W r (some ⟨bb, off, none⟩) m cap p p l true 0 Z) => ((h.drewN n).move k).drewN q)
  clear hd h2 hlt hlen hdn hk hq
  go_enter Tryd.func78, Tryd.ntmps78
  go_upto_region 2 with fail
  generalize ((w.alloc (.cells #[.bool false, .int .u8 0, .int .u64 0, .int .u64 0, .int .u64 0, .int .u64 0, .int .i64 0] 122)).alloc (.cells #[.bool true, .int .u8 0, .int .u64 0, .int .u64 0, .int .u64 0, .int .u64 0, .int .i64 p] 122)) = W0 at *
  obtain ⟨y0, y1, y2, yf⟩ := HW.out.rd.cells
  have n1 : ¬ r = w.heap.size + 1 := by omega
  have n2 : ¬ r = w.heap.size := by omega
  have n3 : ¬ w.heap.size = r := by omega
  have n4 : ¬ w.heap.size + 1 = r := by omega
  go_wp2_with (go_at_call 77; refine (Rd.is (by first | exact HW.out.rd | exact HW.out.rd.drewN _) (Nat.le_of_lt hpm) _ _ (by omega) (by omega) (by omega) (by omega)).mono ?_; rintro e w' ⟨rfl, q, rfl⟩)
  go_quiet (fail)
  go_wp2_with fail
  go_region_held3 (fun W => W.cell? ⟨w.heap.size + 1, 0, none⟩ = some (.bool true) ∧ W.cell? ⟨w.heap.size + 1, 1, none⟩ = some (.int .u8 (iv 0)) ∧ W.cell? ⟨w.heap.size + 1, 2, none⟩ = some (.int .u64 (wd Z 0)) ∧ W.cell? ⟨w.heap.size + 1, 3, none⟩ = some (.int .u64 (wd Z 1)) ∧
    W.cell? ⟨w.heap.size + 1, 4, none⟩ = some (.int .u64 (wd Z 2)) ∧ W.cell? ⟨w.heap.size + 1, 5, none⟩ = some (.int .u64 (wd Z 3)) ∧ W.cell? ⟨w.heap.size + 1, 6, none⟩ = some (.int .i64 p) ∧ W.cell? ⟨r, 0, none⟩ = some (.slice (some ⟨bb, off, none⟩) m cap) ∧ W.cell? ⟨r, 1, none⟩ = some (.int .i64 k)) (first | with_reducible exact H6.out | with_reducible exact H5.out.s3 | with_reducible exact (HMV.out W0 _ _ HW.out).s3 | with_reducible exact (HMV.out W0 _ _ HW.out).drew.s3)
    ((go_at_call 63; refine ((HMV.out W0 _ _ HW.out).drew.rd.fail _ (by omega) (by omega) _).mono ?_; rintro e w5 ⟨⟨t', v', rfl⟩, b5⟩; have H5 := Lib.hid ((HMV.out W0 _ _ HW.out).drew.below b5); clear b5; obtain ⟨⟨z0, z1, z2, z3, z4, z5, z6⟩, zf0, zf1, zf2, zf3, zf4, zf5, zf6⟩ := H5.out.z.cells; have H6 := Lib.hid (H5.out.s3fin true 0 Z p); unfold put7 at H6))
  have HF := Lib.hid (H5.out.fin true 0 Z p)
  rename_i hHeld
  clear hHeld
  change Exit.then _ _ _ _ (put7 w5 w.heap.size true 0 Z p)
  generalize put7 w5 w.heap.size true 0 Z p = W8 at *
  obtain ⟨⟨v0, v1, v2, v3, v4, v5, v6⟩, -⟩ := HF.out.2.2.cells
  go_wp2_with fail
  refine bodyPost_ret (v := .tuple #[itV true 0 Z p, .iface t' v']) (by simp [results, Tryd.results78, go_sem, v0, v1, v2, v3, v4, v5, v6, itV, wv]) rfl ?_
  rw [HZ.out]
  exact ⟨⟨_, _, rfl⟩, HF.out.2.1⟩

set_option maxRecDepth 100000 in
set_option maxHeartbeats 1600000 in
theorem item_cls (w : World) (r : Nat) (a : Option Addr) (m cap p : Nat) (l : List UInt8) (c : UInt8) (t : List UInt8) (hr : Rd w r a m cap p l) (hd : l.drop p = c :: t) (h1 : c = 91) (h2 : t.head? = some 58) (n : List UInt8) (S : BitVec 256) (hn : nameS t.tail = some n) (hS : classS n = some S) :
    Calls Tryd.prog 78 #[.pointer (some ⟨r, 0, none⟩)] w fun e w' => e = .returned (.tuple #[itV false 0 S p, .nilIface]) ∧ RdAt w' r a m cap (p + n.length + 4) 2 ∧ w.grownBy w' (some r) := by
  have b0 : stI l (p : Int) 91 = true := st0_true hd (by rw [h1]; rfl)
  have b1 : stI l ((p : Int) + 1) 46 = false := st1_false hd (fun d e h => by rw [h2] at e; have := Option.some.inj e; subst this; exact absurd h (by decide))
  have b2 : stI l ((p : Int) + 1) 61 = false := st1_false hd (fun d e h => by rw [h2] at e; have := Option.some.inj e; subst this; exact absurd h (by decide))
  have b3 : stI l ((p : Int) + 1) 58 = true := st1_true hd h2 rfl
  obtain ⟨hlt, hlen, hdn⟩ := drop_lt c t hd
  obtain ⟨bb, off, rfl⟩ : ∃ bb off, a = some ⟨bb, off, none⟩ := by
    rcases hr.b with h | ⟨bb, off, h, -⟩
    · subst h; simp at hlt
    · exact ⟨bb, off, h⟩
  obtain ⟨r0, r1, r2, rf⟩ := hr.cells
  have hrl := hr.lt
  have hpm : p < m := by have := hr.hm; omega
  have hmc : m ≤ cap := hr.ms
  have hcs := hr.cs
  obtain ⟨Z, hZ⟩ : ∃ Z : BitVec 256, Z = 0 := ⟨_, rfl⟩
  have HW := Lib.hid (show ItW w _ r _ m cap p p l true 0 Z from by rw [hZ]; exact ItW.mk' hr)
  have HZ := Lib.hid hZ
  clear hZ
  have i1 : (0 : Int) ≤ (p : Int) := by omega
  have i2 : (p : Int) < (m : Int) := by omega
  have i3 : (p : Int) + 1 ≤ (cap : Int) := by omega
  have i4 : IntKind.i64.wrap ((p : Int) + 1) = (p : Int) + 1 := by rw [IntKind.wrap_i64]; omega
  obtain ⟨k, hk⟩ : ∃ k : Nat, k = p + 2 := ⟨_, rfl⟩
  have hpk : (p : Int) + 2 = (k : Int) := by omega
  have hkm : k ≤ m := by
    have := hr.hm
    cases t with
    | nil => simp at h2
    | cons d u => simp at hlen; omega
  have hdk : l.drop k = t.tail := by rw [hk, show l.drop (p + 2) = (l.drop (p + 1)).drop 1 by rw [List.drop_drop], hdn]; simp
  have i5 : IntKind.i64.wrap ((p : Int) + 2) = (k : Int) := by rw [IntKind.wrap_i64]; omega
  have i6 : (0 : Int) ≤ (k : Int) := by omega
  have i7 : (k : Int) ≤ (m : Int) := by omega
  have hmb := hr.mb
  obtain ⟨A, hsl, hcvv⟩ := tail_conv (bb := bb) (off := off) hkm hmc
  obtain ⟨T, hT⟩ : ∃ T : ByteArray, T = ⟨(l.drop k).toArray⟩ := ⟨_, rfl⟩
  have hTs : T.size = m - k := by rw [hT, ← hr.hm]; show (List.toArray _).size = _; simp
  have hTb : bl T = t.tail := by rw [hT, ← hdk]; simp [bl]
  have HCV := Lib.hid (fun W r p l (h : Rd W r (some ⟨bb, off, none⟩) m cap p l) (e : T = ⟨(l.drop k).toArray⟩) => (by rw [e]; exact hcvv W r p l h : (convert 22 9 (.slice (some A) (m - k) (cap - k))).run Tryd.prog W = .ok (.string T) W))
  rw [← hTb] at hn
  obtain ⟨N, R, hN, hNs, hcu⟩ := cut_some T (by omega) n hn
  have HCU := Lib.hid hcu
  have hcl := fun w => class_any N w (by omega)
  rw [hN, hS] at hcl
  have HCL := Lib.hid (show ∀ w : World, Calls Tryd.prog 89 #[.string N] w fun e w' => e = .returned (.tuple #[setV S, .bool true]) ∧ Below w.heap.size w w' from hcl)
  have HCV := Lib.hid (fun W r p (h : Rd W r (some ⟨bb, off, none⟩) m cap p l) => HCV.out W r p l h hT)
  have hNl : N.size = n.length := by rw [← hN, bl_len]
  have HNL := Lib.hid hNl
  have hnk : k + N.size + 2 ≤ m := by have := (name_len hn).1; rw [bl_len, ← hNl] at this; omega
  obtain ⟨z, hz⟩ : ∃ z : Nat, z = p + n.length + 4 := ⟨_, rfl⟩
  have hzI : (p : Int) + ((N.size : Int) + 4) = (z : Int) := by omega
  have HZ2 := Lib.hid hz
  clear hd h1 h2 hlt hlen hdn hcl hcu hN hS hn hNs hTb hT hcvv hdk hk hTs hNl hz
  go_enter Tryd.func78, Tryd.ntmps78
  go_upto_region 2 with fail
  generalize ((w.alloc (.cells #[.bool false, .int .u8 0, .int .u64 0, .int .u64 0, .int .u64 0, .int .u64 0, .int .i64 0] 122)).alloc (.cells #[.bool true, .int .u8 0, .int .u64 0, .int .u64 0, .int .u64 0, .int .u64 0, .int .i64 p] 122)) = W0 at *
  obtain ⟨y0, y1, y2, yf⟩ := HW.out.rd.cells
  have hcv : ∀ q, (convert 22 9 (.slice (some A) (m - k) (cap - k))).run Tryd.prog (W0.drewN q) = .ok (.string T) (W0.drewN q) := fun q => HCV.out _ r p (HW.out.rd.drewN q)
  have HCT := Lib.hid (fun q => HCU.out (W0.drewN q) (HW.out.rd.drewN q).g)
  go_wp2_with (go_at_call 77; refine (Rd.is (by first | exact HW.out.rd | exact HW.out.rd.drewN _) (Nat.le_of_lt hpm) _ _ (by omega) (by omega) (by omega) (by omega)).mono ?_; rintro e w' ⟨rfl, q, rfl⟩)
  clear b0 b1 b2 b3
  go_quiet ((go_at_call 88; first | exact quiet_add (HCT.out _) | exact Calls.quiet_of (HCT.out _)))
  clear HCT hcv hsl
  go_wp2_with fail
  refine (HCL.out _).mono ?_; rintro e w5 ⟨rfl, b5⟩
  have H15 := Lib.hid ((HW.out.drewN _).below b5)
  clear b5 y0 y1 y2 yf HW
  unfold setV wv
  go_upto_region 7 with fail
  have H16 := Lib.hid (H15.out.alloc (.cells #[.int .u64 (wd S 0), .int .u64 (wd S 1), .int .u64 (wd S 2), .int .u64 (wd S 3)] 68))
  have HS6 := Lib.hid (show SetAt (w5.alloc (.cells #[.int .u64 (wd S 0), .int .u64 (wd S 1), .int .u64 (wd S 2), .int .u64 (wd S 3)] 68)) w5.heap.size S from heap_alloc_new _ _)
  have HL6 := Lib.hid (show w.heap.size + 1 < w5.heap.size from H15.out.x.lt)
  generalize w5.alloc (.cells #[.int .u64 (wd S 0), .int .u64 (wd S 1), .int .u64 (wd S 2), .int .u64 (wd S 3)] 68) = W6 at *
  generalize w5.heap.size = V at *
  obtain ⟨s0, s1, s2, s3, -⟩ := HS6.out.cells
  obtain ⟨⟨x0, x1, x2, x3, x4, x5, x6⟩, -⟩ := H16.out.x.cells
  obtain ⟨⟨z0, z1, z2, z3, z4, z5, z6⟩, zf0, zf1, zf2, zf3, zf4, zf5, zf6⟩ := H16.out.z.cells
  obtain ⟨y0, y1, y2, yf⟩ := H16.out.rd.cells
  have n1 : ¬ r = w.heap.size + 1 := by omega
  have n2 : ¬ r = w.heap.size := by omega
  have n3 : ¬ w.heap.size = r := by omega
  have n4 : ¬ w.heap.size + 1 = r := by omega
  have n5 : ¬ V = r := by have := HL6.out; omega
  have n6 : ¬ r = V := by have := HL6.out; omega
  go_wp2_with fail
  have H7 := Lib.hid (H16.out.move z)
  have HF := Lib.hid (H7.out.fin false 0 S p)
  change bodyPost _ _ _ _ _ (put7 (W6.setCell ⟨r, 1, none⟩ (.int .i64 z)) w.heap.size false 0 S p)
  generalize put7 (W6.setCell ⟨r, 1, none⟩ (.int .i64 z)) w.heap.size false 0 S p = W8 at *
  obtain ⟨⟨v0, v1, v2, v3, v4, v5, v6⟩, -⟩ := HF.out.2.2.cells
  refine bodyPost_ret (v := .tuple #[itV false 0 S p, .nilIface]) (by simp [results, Tryd.results78, go_sem, v0, v1, v2, v3, v4, v5, v6, itV, wv]) rfl ?_
  rw [← HZ2.out]
  exact ⟨rfl, HF.out.1, HF.out.2.1⟩

set_option maxRecDepth 100000 in
set_option maxHeartbeats 1600000 in
theorem item_clsbad (w : World) (r : Nat) (a : Option Addr) (m cap p : Nat) (l : List UInt8) (c : UInt8) (t : List UInt8) (hr : Rd w r a m cap p l) (hd : l.drop p = c :: t) (h1 : c = 91) (h2 : t.head? = some 58) (hn : (nameS t.tail).bind classS = none) :
    Calls Tryd.prog 78 #[.pointer (some ⟨r, 0, none⟩)] w fun e w' => (∃ t' v', e = .returned (.tuple #[itV true 0 0 p, .iface t' v'])) ∧ w.grownBy w' (some r) := by
  have b0 : stI l (p : Int) 91 = true := st0_true hd (by rw [h1]; rfl)
  have b1 : stI l ((p : Int) + 1) 46 = false := st1_false hd (fun d e h => by rw [h2] at e; have := Option.some.inj e; subst this; exact absurd h (by decide))
  have b2 : stI l ((p : Int) + 1) 61 = false := st1_false hd (fun d e h => by rw [h2] at e; have := Option.some.inj e; subst this; exact absurd h (by decide))
  have b3 : stI l ((p : Int) + 1) 58 = true := st1_true hd h2 rfl
  obtain ⟨hlt, hlen, hdn⟩ := drop_lt c t hd
  obtain ⟨bb, off, rfl⟩ : ∃ bb off, a = some ⟨bb, off, none⟩ := by
    rcases hr.b with h | ⟨bb, off, h, -⟩
    · subst h; simp at hlt
    · exact ⟨bb, off, h⟩
  obtain ⟨r0, r1, r2, rf⟩ := hr.cells
  have hrl := hr.lt
  have hpm : p < m := by have := hr.hm; omega
  have hmc : m ≤ cap := hr.ms
  have hcs := hr.cs
  obtain ⟨Z, hZ⟩ : ∃ Z : BitVec 256, Z = 0 := ⟨_, rfl⟩
  have HW := Lib.hid (show ItW w _ r _ m cap p p l true 0 Z from by rw [hZ]; exact ItW.mk' hr)
  have HZ := Lib.hid hZ
  clear hZ
  have i1 : (0 : Int) ≤ (p : Int) := by omega
  have i2 : (p : Int) < (m : Int) := by omega
  have i3 : (p : Int) + 1 ≤ (cap : Int) := by omega
  have i4 : IntKind.i64.wrap ((p : Int) + 1) = (p : Int) + 1 := by rw [IntKind.wrap_i64]; omega
  obtain ⟨k, hk⟩ : ∃ k : Nat, k = p + 2 := ⟨_, rfl⟩
  have hpk : (p : Int) + 2 = (k : Int) := by omega
  have hkm : k ≤ m := by
    have := hr.hm
    cases t with
    | nil => simp at h2
    | cons d u => simp at hlen; omega
  have hdk : l.drop k = t.tail := by rw [hk, show l.drop (p + 2) = (l.drop (p + 1)).drop 1 by rw [List.drop_drop], hdn]; simp
  have i5 : IntKind.i64.wrap ((p : Int) + 2) = (k : Int) := by rw [IntKind.wrap_i64]; omega
  have i6 : (0 : Int) ≤ (k : Int) := by omega
  have i7 : (k : Int) ≤ (m : Int) := by omega
  have hmb := hr.mb
  obtain ⟨A, hsl, hcvv⟩ := tail_conv (bb := bb) (off := off) hkm hmc
  obtain ⟨T, hT⟩ : ∃ T : ByteArray, T = ⟨(l.drop k).toArray⟩ := ⟨_, rfl⟩
  have hTs : T.size = m - k := by rw [hT, ← hr.hm]; show (List.toArray _).size = _; simp
  have hTb : bl T = t.tail := by rw [hT, ← hdk]; simp [bl]
  have HCV := Lib.hid (fun W r p l (h : Rd W r (some ⟨bb, off, none⟩) m cap p l) (e : T = ⟨(l.drop k).toArray⟩) => (by rw [e]; exact hcvv W r p l h : (convert 22 9 (.slice (some A) (m - k) (cap - k))).run Tryd.prog W = .ok (.string T) W))
  obtain ⟨N, R, cl, S, ok, hN1, hN2, hcu, hcl⟩ : ∃ (N R : ByteArray) (cl : Bool) (S : BitVec 256) (ok : Bool), N.size ≤ T.size ∧ (cl && ok) = false ∧
      (∀ W, Glob W → Calls Tryd.prog 88 #[.string T, .string ⟨#[58, 93]⟩] W fun e w' => e = .returned (.tuple #[.string N, .string R, .bool cl]) ∧ ∃ n, w' = W.drewN n) ∧
      (∀ w : World, Calls Tryd.prog 89 #[.string N] w fun e w' => e = .returned (.tuple #[setV S, .bool ok]) ∧ Below w.heap.size w w') := by
    rw [← hTb] at hn
    cases hnn : nameS (bl T) with
    | none =>
      obtain ⟨N, R, h1, h2⟩ := cut_none T (by omega) hnn
      exact ⟨N, R, false, _, _, h1, rfl, h2, fun w => class_any N w (by omega)⟩
    | some n =>
      obtain ⟨N, R, hN, h1, h2⟩ := cut_some T (by omega) n hnn
      rw [hnn, Option.bind_some] at hn
      refine ⟨N, R, true, _, _, h1, ?_, h2, fun w => class_any N w (by omega)⟩
      rw [hN, hn]; rfl
  have HCU := Lib.hid hcu
  have HCL := Lib.hid hcl
  have HCV := Lib.hid (fun W r p (h : Rd W r (some ⟨bb, off, none⟩) m cap p l) => HCV.out W r p l h hT)
  clear hd h1 h2 hlt hlen hdn hcl hcu hn hTb hT hcvv hdk hk hTs hN1
  have HNO := Lib.hid hN2
  clear hN2
  cases cl with
  | false =>
    go_enter Tryd.func78, Tryd.ntmps78
    go_upto_region 2 with fail
    generalize ((w.alloc (.cells #[.bool false, .int .u8 0, .int .u64 0, .int .u64 0, .int .u64 0, .int .u64 0, .int .i64 0] 122)).alloc (.cells #[.bool true, .int .u8 0, .int .u64 0, .int .u64 0, .int .u64 0, .int .u64 0, .int .i64 p] 122)) = W0 at *
    obtain ⟨y0, y1, y2, yf⟩ := HW.out.rd.cells
    have hcv : ∀ q, (convert 22 9 (.slice (some A) (m - k) (cap - k))).run Tryd.prog (W0.drewN q) = .ok (.string T) (W0.drewN q) := fun q => HCV.out _ r p (HW.out.rd.drewN q)
    have HCT := Lib.hid (fun q => HCU.out (W0.drewN q) (HW.out.rd.drewN q).g)
    go_wp2_with (go_at_call 77; refine (Rd.is (by first | exact HW.out.rd | exact HW.out.rd.drewN _) (Nat.le_of_lt hpm) _ _ (by omega) (by omega) (by omega) (by omega)).mono ?_; rintro e w' ⟨rfl, q, rfl⟩)
    clear b0 b1 b2 b3
    go_quiet ((go_at_call 88; first | exact quiet_add (HCT.out _) | exact Calls.quiet_of (HCT.out _)))
    clear HCT hcv hsl
    go_wp2_with fail
    refine (HCL.out _).mono ?_; rintro e w5 ⟨rfl, b5⟩
    have H15 := Lib.hid ((HW.out.drewN _).below b5)
    clear b5 y0 y1 y2 yf HW
    unfold setV wv
    go_upto_region 7 with fail
    have H16 := Lib.hid (H15.out.alloc (.cells #[.int .u64 (wd S 0), .int .u64 (wd S 1), .int .u64 (wd S 2), .int .u64 (wd S 3)] 68))
    have HS6 := Lib.hid (show SetAt (w5.alloc (.cells #[.int .u64 (wd S 0), .int .u64 (wd S 1), .int .u64 (wd S 2), .int .u64 (wd S 3)] 68)) w5.heap.size S from heap_alloc_new _ _)
    have HL6 := Lib.hid (show w.heap.size + 1 < w5.heap.size from H15.out.x.lt)
    generalize w5.alloc (.cells #[.int .u64 (wd S 0), .int .u64 (wd S 1), .int .u64 (wd S 2), .int .u64 (wd S 3)] 68) = W6 at *
    generalize w5.heap.size = V at *
  
    go_wp2_with fail
    go_region_held3 (fun W => W.cell? ⟨w.heap.size + 1, 0, none⟩ = some (.bool true) ∧ W.cell? ⟨w.heap.size + 1, 1, none⟩ = some (.int .u8 (iv 0)) ∧ W.cell? ⟨w.heap.size + 1, 2, none⟩ = some (.int .u64 (wd Z 0)) ∧ W.cell? ⟨w.heap.size + 1, 3, none⟩ = some (.int .u64 (wd Z 1)) ∧
      W.cell? ⟨w.heap.size + 1, 4, none⟩ = some (.int .u64 (wd Z 2)) ∧ W.cell? ⟨w.heap.size + 1, 5, none⟩ = some (.int .u64 (wd Z 3)) ∧ W.cell? ⟨w.heap.size + 1, 6, none⟩ = some (.int .i64 p) ∧ W.cell? ⟨r, 0, none⟩ = some (.slice (some ⟨bb, off, none⟩) m cap) ∧ W.cell? ⟨r, 1, none⟩ = some (.int .i64 p)) (first | with_reducible exact H6.out | with_reducible exact H5.out.s3 | with_reducible exact (H16.out).s3 | with_reducible exact (H16.out).drew.s3)
      ((go_at_call 63; refine ((H16.out).drew.rd.fail _ (by omega) (by omega) _).mono ?_; rintro e w5 ⟨⟨t', v', rfl⟩, b5⟩; have H5 := Lib.hid ((H16.out).drew.below b5); clear b5; obtain ⟨⟨z0, z1, z2, z3, z4, z5, z6⟩, zf0, zf1, zf2, zf3, zf4, zf5, zf6⟩ := H5.out.z.cells; have H6 := Lib.hid (H5.out.s3fin true 0 Z p); unfold put7 at H6))
    have HF := Lib.hid (H5.out.fin true 0 Z p)
    rename_i hHeld
    clear hHeld
    change Exit.then _ _ _ _ (put7 w5 w.heap.size true 0 Z p)
    generalize put7 w5 w.heap.size true 0 Z p = W8 at *
    obtain ⟨⟨v0, v1, v2, v3, v4, v5, v6⟩, -⟩ := HF.out.2.2.cells
    go_wp2_with fail
    refine bodyPost_ret (v := .tuple #[itV true 0 Z p, .iface t' v']) (by simp [results, Tryd.results78, go_sem, v0, v1, v2, v3, v4, v5, v6, itV, wv]) rfl ?_
    rw [HZ.out]
    exact ⟨⟨_, _, rfl⟩, HF.out.2.1⟩
  | true =>
    obtain rfl : ok = false := HNO.out
    go_enter Tryd.func78, Tryd.ntmps78
    go_upto_region 2 with fail
    generalize ((w.alloc (.cells #[.bool false, .int .u8 0, .int .u64 0, .int .u64 0, .int .u64 0, .int .u64 0, .int .i64 0] 122)).alloc (.cells #[.bool true, .int .u8 0, .int .u64 0, .int .u64 0, .int .u64 0, .int .u64 0, .int .i64 p] 122)) = W0 at *
    obtain ⟨y0, y1, y2, yf⟩ := HW.out.rd.cells
    have hcv : ∀ q, (convert 22 9 (.slice (some A) (m - k) (cap - k))).run Tryd.prog (W0.drewN q) = .ok (.string T) (W0.drewN q) := fun q => HCV.out _ r p (HW.out.rd.drewN q)
    have HCT := Lib.hid (fun q => HCU.out (W0.drewN q) (HW.out.rd.drewN q).g)
    go_wp2_with (go_at_call 77; refine (Rd.is (by first | exact HW.out.rd | exact HW.out.rd.drewN _) (Nat.le_of_lt hpm) _ _ (by omega) (by omega) (by omega) (by omega)).mono ?_; rintro e w' ⟨rfl, q, rfl⟩)
    clear b0 b1 b2 b3
    go_quiet ((go_at_call 88; first | exact quiet_add (HCT.out _) | exact Calls.quiet_of (HCT.out _)))
    clear HCT hcv hsl
    go_wp2_with fail
    refine (HCL.out _).mono ?_; rintro e w5 ⟨rfl, b5⟩
    have H15 := Lib.hid ((HW.out.drewN _).below b5)
    clear b5 y0 y1 y2 yf HW
    unfold setV wv
    go_upto_region 7 with fail
    have H16 := Lib.hid (H15.out.alloc (.cells #[.int .u64 (wd S 0), .int .u64 (wd S 1), .int .u64 (wd S 2), .int .u64 (wd S 3)] 68))
    have HS6 := Lib.hid (show SetAt (w5.alloc (.cells #[.int .u64 (wd S 0), .int .u64 (wd S 1), .int .u64 (wd S 2), .int .u64 (wd S 3)] 68)) w5.heap.size S from heap_alloc_new _ _)
    have HL6 := Lib.hid (show w.heap.size + 1 < w5.heap.size from H15.out.x.lt)
    generalize w5.alloc (.cells #[.int .u64 (wd S 0), .int .u64 (wd S 1), .int .u64 (wd S 2), .int .u64 (wd S 3)] 68) = W6 at *
    generalize w5.heap.size = V at *
  
    go_wp2_with fail
    go_region_held3 (fun W => W.cell? ⟨w.heap.size + 1, 0, none⟩ = some (.bool true) ∧ W.cell? ⟨w.heap.size + 1, 1, none⟩ = some (.int .u8 (iv 0)) ∧ W.cell? ⟨w.heap.size + 1, 2, none⟩ = some (.int .u64 (wd Z 0)) ∧ W.cell? ⟨w.heap.size + 1, 3, none⟩ = some (.int .u64 (wd Z 1)) ∧
      W.cell? ⟨w.heap.size + 1, 4, none⟩ = some (.int .u64 (wd Z 2)) ∧ W.cell? ⟨w.heap.size + 1, 5, none⟩ = some (.int .u64 (wd Z 3)) ∧ W.cell? ⟨w.heap.size + 1, 6, none⟩ = some (.int .i64 p) ∧ W.cell? ⟨r, 0, none⟩ = some (.slice (some ⟨bb, off, none⟩) m cap) ∧ W.cell? ⟨r, 1, none⟩ = some (.int .i64 p)) (first | with_reducible exact H6.out | with_reducible exact H5.out.s3 | with_reducible exact (H16.out).s3 | with_reducible exact (H16.out).drew.s3)
      ((go_at_call 63; refine ((H16.out).drew.rd.fail _ (by omega) (by omega) _).mono ?_; rintro e w5 ⟨⟨t', v', rfl⟩, b5⟩; have H5 := Lib.hid ((H16.out).drew.below b5); clear b5; obtain ⟨⟨z0, z1, z2, z3, z4, z5, z6⟩, zf0, zf1, zf2, zf3, zf4, zf5, zf6⟩ := H5.out.z.cells; have H6 := Lib.hid (H5.out.s3fin true 0 Z p); unfold put7 at H6))
    have HF := Lib.hid (H5.out.fin true 0 Z p)
    rename_i hHeld
    clear hHeld
    change Exit.then _ _ _ _ (put7 w5 w.heap.size true 0 Z p)
    generalize put7 w5 w.heap.size true 0 Z p = W8 at *
    obtain ⟨⟨v0, v1, v2, v3, v4, v5, v6⟩, -⟩ := HF.out.2.2.cells
    go_wp2_with fail
    refine bodyPost_ret (v := .tuple #[itV true 0 Z p, .iface t' v']) (by simp [results, Tryd.results78, go_sem, v0, v1, v2, v3, v4, v5, v6, itV, wv]) rfl ?_
    rw [HZ.out]
    exact ⟨⟨_, _, rfl⟩, HF.out.2.1⟩

theorem item_some (w : World) (r : Nat) (a : Option Addr) (m cap p : Nat) (l : List UInt8) (c : UInt8) (t : List UInt8) (hr : Rd w r a m cap p l) (hd : l.drop p = c :: t) (x : It) (hx : itemS c t = some x) :
    Calls Tryd.prog 78 #[.pointer (some ⟨r, 0, none⟩)] w fun e w' => e = .returned (.tuple #[itV x.one x.b x.s p, .nilIface]) ∧ RdAt w' r a m cap (p + (x.k + 1)) 2 ∧ w.grownBy w' (some r) := by
  unfold itemS at hx
  by_cases h1 : c = 91 ∧ (t.head? = some 46 ∨ t.head? = some 61)
  · rw [if_pos h1] at hx; cases hx
  rw [if_neg h1] at hx
  by_cases h2 : c = 91 ∧ t.head? = some 58
  · rw [if_pos h2] at hx
    cases hn : nameS t.tail with
    | none => rw [hn] at hx; cases hx
    | some n =>
      rw [hn] at hx
      cases hS : classS n with
      | none => simp only [hS] at hx; cases hx
      | some S =>
        simp only [hS] at hx
        obtain rfl := Option.some.inj hx
        exact item_cls w r a m cap p l c t hr hd h2.1 h2.2 n S hn hS
  rw [if_neg h2] at hx
  by_cases h3 : c = 92
  · rw [if_pos h3] at hx
    cases t with
    | nil => cases hx
    | cons d u =>
      obtain rfl := Option.some.inj hx
      exact item_esc w r a m cap p l c d u hr hd h3
  rw [if_neg h3] at hx
  obtain rfl := Option.some.inj hx
  exact item_byte w r a m cap p l c t hr hd (fun hc => ⟨fun e => h1 ⟨hc, .inl e⟩, fun e => h1 ⟨hc, .inr e⟩, fun e => h2 ⟨hc, e⟩⟩) h3
theorem item_none (w : World) (r : Nat) (a : Option Addr) (m cap p : Nat) (l : List UInt8) (c : UInt8) (t : List UInt8) (hr : Rd w r a m cap p l) (hd : l.drop p = c :: t) (hx : itemS c t = none) :
    Calls Tryd.prog 78 #[.pointer (some ⟨r, 0, none⟩)] w fun e w' => (∃ t' v', e = .returned (.tuple #[itV true 0 0 p, .iface t' v'])) ∧ w.grownBy w' (some r) := by
  unfold itemS at hx
  by_cases h1 : c = 91 ∧ (t.head? = some 46 ∨ t.head? = some 61)
  · exact item_dot w r a m cap p l c t hr hd h1.1 h1.2
  rw [if_neg h1] at hx
  by_cases h2 : c = 91 ∧ t.head? = some 58
  · rw [if_pos h2] at hx
    refine item_clsbad w r a m cap p l c t hr hd h2.1 h2.2 ?_
    cases hn : nameS t.tail with
    | none => rfl
    | some n =>
      rw [hn] at hx
      cases hS : classS n with
      | none => exact hS
      | some S => simp only [hS] at hx; cases hx
  rw [if_neg h2] at hx
  by_cases h3 : c = 92
  · rw [if_pos h3] at hx
    cases t with
    | nil => exact item_end w r a m cap p l c hr hd h3
    | cons d u => cases hx
  rw [if_neg h3] at hx
  cases hx

end Go.Proofs.YtafmhhhboihdfaaDoor
