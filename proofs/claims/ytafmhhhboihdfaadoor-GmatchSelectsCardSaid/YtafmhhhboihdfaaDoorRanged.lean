/-
  A bracket's reader: ranged. Conditions: those that each theorem names. Printed by gen_ranged.py.
-/
import Derived.Test.YtafmhhhboihdfaaDoorItem
namespace Go.Proofs.YtafmhhhboihdfaaDoor
open Go.RowKit
set_option linter.unusedVariables false
attribute [local go_sem ↓] Go.wp_at_zero Go.wp_at_succ
/-- the blocks of ranged: the reader, its argument's, the answer's -/
structure RaW (w W : World) (r : Nat) (a : Option Addr) (m cap p p0 : Nat) (l : List UInt8) (one : Bool) (b : UInt8) (S Z : BitVec 256) : Prop where
  rd : Rd W r a m cap p l
  x : ItAt W w.heap.size one b S p0
  z : SetAt W (w.heap.size + 1) Z
  lt : r < w.heap.size
  g : w.grownBy W (some r)
section
variable {w W W' : World} {r : Nat} {a : Option Addr} {m cap p p0 : Nat} {l : List UInt8} {one : Bool} {b : UInt8} {S Z : BitVec 256}
theorem RaW.mk' (h : Rd w r a m cap p l) (one : Bool) (b : UInt8) (S : BitVec 256) (p0 : Nat) :
    RaW w ((w.alloc (.cells #[.bool one, .int .u8 (iv b), .int .u64 (wd S 0), .int .u64 (wd S 1), .int .u64 (wd S 2), .int .u64 (wd S 3), .int .i64 p0] 122)).alloc (.cells #[.int .u64 0, .int .u64 0, .int .u64 0, .int .u64 0] 68)) r a m cap p p0 l one b S 0 := by
  refine ⟨(h.alloc _).alloc _, ItAt.kept (show ItAt _ w.heap.size one b S p0 from heap_alloc_new w _) (World.grownBy_alloc _ _ none) (by simp), ?_, h.lt, grown_trans (alloc_grown w _ _) (alloc_grown _ _ _)⟩
  have e := setat_alloc (w.alloc (.cells #[.bool one, .int .u8 (iv b), .int .u64 (wd S 0), .int .u64 (wd S 1), .int .u64 (wd S 2), .int .u64 (wd S 3), .int .i64 p0] 122))
  rw [show (w.alloc (.cells #[.bool one, .int .u8 (iv b), .int .u64 (wd S 0), .int .u64 (wd S 1), .int .u64 (wd S 2), .int .u64 (wd S 3), .int .i64 p0] 122)).heap.size = w.heap.size + 1 by simp] at e
  exact e
theorem RaW.below (h : RaW w W r a m cap p p0 l one b S Z) (g : Below W.heap.size W W') : RaW w W' r a m cap p p0 l one b S Z :=
  ⟨h.rd.below g, (g.block _ h.x.lt).trans h.x, h.z.below g h.z.lt, h.lt, ⟨g.os.trans h.g.os, g.tape.trans h.g.tape, g.output.trans h.g.output, Nat.le_trans h.g.size g.size, fun k hk hne => (g.block k (Nat.lt_of_lt_of_le hk h.g.size)).trans (h.g.block k hk hne)⟩⟩
theorem RaW.drewN (h : RaW w W r a m cap p p0 l one b S Z) (n : Nat) : RaW w (W.drewN n) r a m cap p p0 l one b S Z := h.below ⟨rfl, rfl, rfl, Nat.le_refl _, fun _ _ => rfl⟩
theorem RaW.drew (h : RaW w W r a m cap p p0 l one b S Z) : RaW w W.drew r a m cap p p0 l one b S Z := h.below (Below.refl _ _).drew
theorem RaW.alloc (h : RaW w W r a m cap p p0 l one b S Z) (o : Obj) : RaW w (W.alloc o) r a m cap p p0 l one b S Z := h.below ((Below.refl _ _).alloc (Nat.le_refl _) _)
theorem RaW.went (h : RaW w W r a m cap p p0 l one b S Z) {p' : Nat} (g : W.grownBy W' (some r)) (hr : RdAt W' r a m cap p' 2) : RaW w W' r a m cap p' p0 l one b S Z := by
  have h1 := h.lt
  exact ⟨h.rd.grown g hr, h.x.kept g (by intro e; have := Option.some.inj e; omega), h.z.kept g (by intro e; have := Option.some.inj e; omega), h.lt, grown_trans h.g g⟩
theorem RaW.move (h : RaW w W r a m cap p p0 l one b S Z) (p' : Nat) : RaW w (W.setCell ⟨r, 1, none⟩ (.int .i64 p')) r a m cap p' p0 l one b S Z :=
  h.went (grown_setCell _ _ _ _) (h.rd.move p').rd
/-- behind the store of the answer -/
theorem RaW.fin (h : RaW w W r a m cap p p0 l one b S Z) (T : BitVec 256) :
    RdAt (put4 W (w.heap.size + 1) T) r a m cap p 2 ∧ w.grownBy (put4 W (w.heap.size + 1) T) (some r) ∧ SetAt (put4 W (w.heap.size + 1) T) (w.heap.size + 1) T ∧ ItAt (put4 W (w.heap.size + 1) T) w.heap.size one b S p0 := by
  have g := put4_grown W (w.heap.size + 1) T
  have h1 := h.lt
  exact ⟨(h.rd.far g (by omega)).rd, ⟨g.os.trans h.g.os, g.tape.trans h.g.tape, g.output.trans h.g.output, Nat.le_trans h.g.size g.size, fun k hk hne => (g.block k (Nat.lt_of_lt_of_le hk h.g.size) (fun e => by have := Option.some.inj e; omega)).trans (h.g.block k hk hne)⟩, put4_at T h.z, h.x.kept g (by intro e; have := Option.some.inj e; omega)⟩
/-- behind a callee that left the reader's block in any state -/
structure RaX (w W : World) (r p0 : Nat) (one : Bool) (b : UInt8) (S Z : BitVec 256) : Prop where
  x : ItAt W w.heap.size one b S p0
  z : SetAt W (w.heap.size + 1) Z
  g : w.grownBy W (some r)
theorem RaW.gone (h : RaW w W r a m cap p p0 l one b S Z) (g : W.grownBy W' (some r)) : RaX w W' r p0 one b S Z := by
  have h1 := h.lt
  exact ⟨h.x.kept g (by intro e; have := Option.some.inj e; omega), h.z.kept g (by intro e; have := Option.some.inj e; omega), grown_trans h.g g⟩
theorem RaX.alloc (h : RaX w W r p0 one b S Z) (o : Obj) : RaX w (W.alloc o) r p0 one b S Z :=
  ⟨h.x.kept (alloc_grown W o none) (by simp), h.z.kept (alloc_grown W o none) (by simp), grown_trans h.g (alloc_grown W o _)⟩
theorem RaX.fin (h : RaX w W r p0 one b S Z) (T : BitVec 256) : w.grownBy (put4 W (w.heap.size + 1) T) (some r) ∧ SetAt (put4 W (w.heap.size + 1) T) (w.heap.size + 1) T := by
  have g := put4_grown W (w.heap.size + 1) T
  exact ⟨⟨g.os.trans h.g.os, g.tape.trans h.g.tape, g.output.trans h.g.output, Nat.le_trans h.g.size g.size, fun k hk hne => (g.block k (Nat.lt_of_lt_of_le hk h.g.size) (fun e => by have := Option.some.inj e; omega)).trans (h.g.block k hk hne)⟩, put4_at T h.z⟩
/-- with the second item's block -/
structure RaY (w W : World) (r : Nat) (a : Option Addr) (m cap p p0 : Nat) (l : List UInt8) (one : Bool) (b : UInt8) (S Z : BitVec 256) (Y k : Nat) (yo : Bool) (yb : UInt8) (yS : BitVec 256) : Prop where
  ra : RaW w W r a m cap p p0 l one b S Z
  y : ItAt W Y yo yb yS k
  lt : w.heap.size + 1 < Y
variable {Y k : Nat} {yo : Bool} {yb : UInt8} {yS : BitVec 256}
theorem RaW.item (h : RaW w W r a m cap p p0 l one b S Z) (yo : Bool) (yb : UInt8) (yS : BitVec 256) (k : Nat) :
    RaY w (W.alloc (.cells #[.bool yo, .int .u8 (iv yb), .int .u64 (wd yS 0), .int .u64 (wd yS 1), .int .u64 (wd yS 2), .int .u64 (wd yS 3), .int .i64 k] 122)) r a m cap p p0 l one b S Z W.heap.size k yo yb yS :=
  ⟨h.alloc _, heap_alloc_new W _, h.z.lt⟩
theorem RaY.below (h : RaY w W r a m cap p p0 l one b S Z Y k yo yb yS) (g : Below W.heap.size W W') : RaY w W' r a m cap p p0 l one b S Z Y k yo yb yS :=
  ⟨h.ra.below g, (g.block _ h.y.lt).trans h.y, h.lt⟩
theorem RaY.drew (h : RaY w W r a m cap p p0 l one b S Z Y k yo yb yS) : RaY w W.drew r a m cap p p0 l one b S Z Y k yo yb yS := h.below (Below.refl _ _).drew
theorem RaY.s14 (h : RaY w W r a m cap p p0 l one b S Z Y k yo yb yS) : W.cell? ⟨w.heap.size, 0, none⟩ = some (.bool one) ∧ W.cell? ⟨w.heap.size, 1, none⟩ = some (.int .u8 (iv b)) ∧ W.cell? ⟨w.heap.size, 2, none⟩ = some (.int .u64 (wd S 0)) ∧ W.cell? ⟨w.heap.size, 3, none⟩ = some (.int .u64 (wd S 1)) ∧ W.cell? ⟨w.heap.size, 4, none⟩ = some (.int .u64 (wd S 2)) ∧ W.cell? ⟨w.heap.size, 5, none⟩ = some (.int .u64 (wd S 3)) ∧ W.cell? ⟨w.heap.size, 6, none⟩ = some (.int .i64 p0) ∧ W.cell? ⟨Y, 0, none⟩ = some (.bool yo) ∧ W.cell? ⟨Y, 1, none⟩ = some (.int .u8 (iv yb)) ∧ W.cell? ⟨Y, 2, none⟩ = some (.int .u64 (wd yS 0)) ∧ W.cell? ⟨Y, 3, none⟩ = some (.int .u64 (wd yS 1)) ∧ W.cell? ⟨Y, 4, none⟩ = some (.int .u64 (wd yS 2)) ∧ W.cell? ⟨Y, 5, none⟩ = some (.int .u64 (wd yS 3)) ∧ W.cell? ⟨Y, 6, none⟩ = some (.int .i64 k) := by
  obtain ⟨⟨x0, x1, x2, x3, x4, x5, x6⟩, -⟩ := h.ra.x.cells
  obtain ⟨⟨y0, y1, y2, y3, y4, y5, y6⟩, -⟩ := h.y.cells
  exact ⟨x0, x1, x2, x3, x4, x5, x6, y0, y1, y2, y3, y4, y5, y6⟩
theorem RaY.f14 (h : RaY w W r a m cap p p0 l one b S Z Y k yo yb yS) (T : BitVec 256) : (put4 W (w.heap.size + 1) T).cell? ⟨w.heap.size, 0, none⟩ = some (.bool one) ∧ (put4 W (w.heap.size + 1) T).cell? ⟨w.heap.size, 1, none⟩ = some (.int .u8 (iv b)) ∧ (put4 W (w.heap.size + 1) T).cell? ⟨w.heap.size, 2, none⟩ = some (.int .u64 (wd S 0)) ∧ (put4 W (w.heap.size + 1) T).cell? ⟨w.heap.size, 3, none⟩ = some (.int .u64 (wd S 1)) ∧ (put4 W (w.heap.size + 1) T).cell? ⟨w.heap.size, 4, none⟩ = some (.int .u64 (wd S 2)) ∧ (put4 W (w.heap.size + 1) T).cell? ⟨w.heap.size, 5, none⟩ = some (.int .u64 (wd S 3)) ∧ (put4 W (w.heap.size + 1) T).cell? ⟨w.heap.size, 6, none⟩ = some (.int .i64 p0) ∧ (put4 W (w.heap.size + 1) T).cell? ⟨Y, 0, none⟩ = some (.bool yo) ∧ (put4 W (w.heap.size + 1) T).cell? ⟨Y, 1, none⟩ = some (.int .u8 (iv yb)) ∧ (put4 W (w.heap.size + 1) T).cell? ⟨Y, 2, none⟩ = some (.int .u64 (wd yS 0)) ∧ (put4 W (w.heap.size + 1) T).cell? ⟨Y, 3, none⟩ = some (.int .u64 (wd yS 1)) ∧ (put4 W (w.heap.size + 1) T).cell? ⟨Y, 4, none⟩ = some (.int .u64 (wd yS 2)) ∧ (put4 W (w.heap.size + 1) T).cell? ⟨Y, 5, none⟩ = some (.int .u64 (wd yS 3)) ∧ (put4 W (w.heap.size + 1) T).cell? ⟨Y, 6, none⟩ = some (.int .i64 k) := by
  have g := put4_grown W (w.heap.size + 1) T
  have h1 := h.lt
  obtain ⟨⟨x0, x1, x2, x3, x4, x5, x6⟩, -⟩ := (h.ra.x.kept g (by intro e; have := Option.some.inj e; omega)).cells
  obtain ⟨⟨y0, y1, y2, y3, y4, y5, y6⟩, -⟩ := (h.y.kept g (by intro e; have := Option.some.inj e; omega)).cells
  exact ⟨x0, x1, x2, x3, x4, x5, x6, y0, y1, y2, y3, y4, y5, y6⟩
end

set_option maxRecDepth 100000 in
set_option maxHeartbeats 1600000 in
theorem ranged_many (w : World) (r : Nat) (a : Option Addr) (m cap p p0 : Nat) (l : List UInt8) (t : List UInt8) (one : Bool) (b : UInt8) (S : BitVec 256) (hr : Rd w r a m cap p l) (hp : p ≤ m) (hd : l.drop p = t) (h1 : one = false) :
    Calls Tryd.prog 79 #[.pointer (some ⟨r, 0, none⟩), itV one b S p0] w fun e w' => e = .returned (.tuple #[setV S, .nilIface]) ∧ RdAt w' r a m cap (p) 2 ∧ w.grownBy w' (some r) := by
  have H1 := Lib.hid h1
  clear h1
  obtain ⟨r0, r1, r2, rf⟩ := hr.cells
  have hrl := hr.lt
  have hmc : m ≤ cap := hr.ms
  have hcs := hr.cs
  have hmb := hr.mb
  have HW := Lib.hid (RaW.mk' hr one b S p0)
  have i1 : (0 : Int) ≤ (p : Int) := by omega
  have i4 : IntKind.i64.wrap ((p : Int) + 1) = (p : Int) + 1 := by rw [IntKind.wrap_i64]; omega
  unfold itV wv
  go_enter Tryd.func79, Tryd.ntmps79
  go_upto_region 1 with fail
  generalize ((w.alloc (.cells #[.bool one, .int .u8 (iv b), .int .u64 (wd S 0), .int .u64 (wd S 1), .int .u64 (wd S 2), .int .u64 (wd S 3), .int .i64 p0] 122)).alloc (.cells #[.int .u64 0, .int .u64 0, .int .u64 0, .int .u64 0] 68)) = W0 at *
  have h1 := H1.out
  obtain ⟨y0, y1, y2, yf⟩ := HW.out.rd.cells
  obtain ⟨⟨x0, x1, x2, x3, x4, x5, x6⟩, -⟩ := HW.out.x.cells
  obtain ⟨z0, z1, z2, z3, zf0, zf1, zf2, zf3⟩ := HW.out.z.cells
  have n1 : ¬ r = w.heap.size + 1 := by omega
  have n2 : ¬ r = w.heap.size := by omega
  have n3 : ¬ w.heap.size = r := by omega
  have n4 : ¬ w.heap.size + 1 = r := by omega
  go_wp2_with fail
  go_quiet ((go_at_call 77; first | exact Calls.quiet_of ((HW.out.rd.drewN _).is hp _ _ (by omega) (by omega) (by omega) (by omega)) | exact quiet_add ((HW.out.rd.drewN _).is hp _ _ (by omega) (by omega) (by omega) (by omega))))
  go_wp2_with fail
  obtain ⟨Q, hQ⟩ : ∃ Q, Q = nq := ⟨_, rfl⟩
  have HF := Lib.hid ((HW.out.drewN nq).fin S)
  change bodyPost _ _ _ _ _ (put4 (W0.drewN nq) (w.heap.size + 1) S)
  generalize put4 (W0.drewN nq) (w.heap.size + 1) S = W8 at *
  obtain ⟨v0, v1, v2, v3, -⟩ := HF.out.2.2.1.cells
  (try simp only [Exit.inBlock, Exit.then])
  refine bodyPost_ret (v := .tuple #[setV S, .nilIface]) (by simp [results, Tryd.results79, go_sem, v0, v1, v2, v3, setV, wv]) rfl ?_
  exact ⟨rfl, HF.out.1, HF.out.2.1⟩

set_option maxRecDepth 100000 in
set_option maxHeartbeats 1600000 in
theorem ranged_nodash (w : World) (r : Nat) (a : Option Addr) (m cap p p0 : Nat) (l : List UInt8) (t : List UInt8) (one : Bool) (b : UInt8) (S : BitVec 256) (hr : Rd w r a m cap p l) (hp : p ≤ m) (hd : l.drop p = t) (h1 : one = true) (h2 : stI l (p : Int) 45 = false) :
    Calls Tryd.prog 79 #[.pointer (some ⟨r, 0, none⟩), itV one b S p0] w fun e w' => e = .returned (.tuple #[setV S, .nilIface]) ∧ RdAt w' r a m cap (p) 2 ∧ w.grownBy w' (some r) := by
  have H1 := Lib.hid h1
  clear h1
  obtain ⟨r0, r1, r2, rf⟩ := hr.cells
  have hrl := hr.lt
  have hmc : m ≤ cap := hr.ms
  have hcs := hr.cs
  have hmb := hr.mb
  have HW := Lib.hid (RaW.mk' hr one b S p0)
  have i1 : (0 : Int) ≤ (p : Int) := by omega
  have i4 : IntKind.i64.wrap ((p : Int) + 1) = (p : Int) + 1 := by rw [IntKind.wrap_i64]; omega
  unfold itV wv
  go_enter Tryd.func79, Tryd.ntmps79
  go_upto_region 1 with fail
  generalize ((w.alloc (.cells #[.bool one, .int .u8 (iv b), .int .u64 (wd S 0), .int .u64 (wd S 1), .int .u64 (wd S 2), .int .u64 (wd S 3), .int .i64 p0] 122)).alloc (.cells #[.int .u64 0, .int .u64 0, .int .u64 0, .int .u64 0] 68)) = W0 at *
  have h1 := H1.out
  obtain ⟨y0, y1, y2, yf⟩ := HW.out.rd.cells
  obtain ⟨⟨x0, x1, x2, x3, x4, x5, x6⟩, -⟩ := HW.out.x.cells
  obtain ⟨z0, z1, z2, z3, zf0, zf1, zf2, zf3⟩ := HW.out.z.cells
  have n1 : ¬ r = w.heap.size + 1 := by omega
  have n2 : ¬ r = w.heap.size := by omega
  have n3 : ¬ w.heap.size = r := by omega
  have n4 : ¬ w.heap.size + 1 = r := by omega
  go_wp2_with fail
  go_quiet ((go_at_call 77; first | exact Calls.quiet_of ((HW.out.rd.drewN _).is hp _ _ (by omega) (by omega) (by omega) (by omega)) | exact quiet_add ((HW.out.rd.drewN _).is hp _ _ (by omega) (by omega) (by omega) (by omega))))
  go_wp2_with fail
  obtain ⟨Q, hQ⟩ : ∃ Q, Q = nq := ⟨_, rfl⟩
  have HF := Lib.hid ((HW.out.drewN nq).fin S)
  change bodyPost _ _ _ _ _ (put4 (W0.drewN nq) (w.heap.size + 1) S)
  generalize put4 (W0.drewN nq) (w.heap.size + 1) S = W8 at *
  obtain ⟨v0, v1, v2, v3, -⟩ := HF.out.2.2.1.cells
  (try simp only [Exit.inBlock, Exit.then])
  refine bodyPost_ret (v := .tuple #[setV S, .nilIface]) (by simp [results, Tryd.results79, go_sem, v0, v1, v2, v3, setV, wv]) rfl ?_
  exact ⟨rfl, HF.out.1, HF.out.2.1⟩

set_option maxRecDepth 100000 in
set_option maxHeartbeats 1600000 in
theorem ranged_last (w : World) (r : Nat) (a : Option Addr) (m cap p p0 : Nat) (l : List UInt8) (t : List UInt8) (one : Bool) (b : UInt8) (S : BitVec 256) (hr : Rd w r a m cap p l) (hp : p ≤ m) (hd : l.drop p = t) (h1 : one = true) (h2 : stI l (p : Int) 45 = true) (h3 : stI l ((p : Int) + 1) 93 = true) :
    Calls Tryd.prog 79 #[.pointer (some ⟨r, 0, none⟩), itV one b S p0] w fun e w' => e = .returned (.tuple #[setV S, .nilIface]) ∧ RdAt w' r a m cap (p) 2 ∧ w.grownBy w' (some r) := by
  have H1 := Lib.hid h1
  clear h1
  obtain ⟨r0, r1, r2, rf⟩ := hr.cells
  have hrl := hr.lt
  have hmc : m ≤ cap := hr.ms
  have hcs := hr.cs
  have hmb := hr.mb
  have HW := Lib.hid (RaW.mk' hr one b S p0)
  have i1 : (0 : Int) ≤ (p : Int) := by omega
  have i4 : IntKind.i64.wrap ((p : Int) + 1) = (p : Int) + 1 := by rw [IntKind.wrap_i64]; omega
  unfold itV wv
  go_enter Tryd.func79, Tryd.ntmps79
  go_upto_region 1 with fail
  generalize ((w.alloc (.cells #[.bool one, .int .u8 (iv b), .int .u64 (wd S 0), .int .u64 (wd S 1), .int .u64 (wd S 2), .int .u64 (wd S 3), .int .i64 p0] 122)).alloc (.cells #[.int .u64 0, .int .u64 0, .int .u64 0, .int .u64 0] 68)) = W0 at *
  have h1 := H1.out
  obtain ⟨y0, y1, y2, yf⟩ := HW.out.rd.cells
  obtain ⟨⟨x0, x1, x2, x3, x4, x5, x6⟩, -⟩ := HW.out.x.cells
  obtain ⟨z0, z1, z2, z3, zf0, zf1, zf2, zf3⟩ := HW.out.z.cells
  have n1 : ¬ r = w.heap.size + 1 := by omega
  have n2 : ¬ r = w.heap.size := by omega
  have n3 : ¬ w.heap.size = r := by omega
  have n4 : ¬ w.heap.size + 1 = r := by omega
  go_wp2_with fail
  go_quiet ((go_at_call 77; first | exact Calls.quiet_of ((HW.out.rd.drewN _).is hp _ _ (by omega) (by omega) (by omega) (by omega)) | exact quiet_add ((HW.out.rd.drewN _).is hp _ _ (by omega) (by omega) (by omega) (by omega))))
  go_wp2_with fail
  obtain ⟨Q, hQ⟩ : ∃ Q, Q = nq := ⟨_, rfl⟩
  have HF := Lib.hid ((HW.out.drewN nq).fin S)
  change bodyPost _ _ _ _ _ (put4 (W0.drewN nq) (w.heap.size + 1) S)
  generalize put4 (W0.drewN nq) (w.heap.size + 1) S = W8 at *
  obtain ⟨v0, v1, v2, v3, -⟩ := HF.out.2.2.1.cells
  (try simp only [Exit.inBlock, Exit.then])
  refine bodyPost_ret (v := .tuple #[setV S, .nilIface]) (by simp [results, Tryd.results79, go_sem, v0, v1, v2, v3, setV, wv]) rfl ?_
  exact ⟨rfl, HF.out.1, HF.out.2.1⟩

set_option maxRecDepth 100000 in
set_option maxHeartbeats 1600000 in
theorem ranged_end (w : World) (r : Nat) (a : Option Addr) (m cap p p0 : Nat) (l : List UInt8) (t : List UInt8) (one : Bool) (b : UInt8) (S : BitVec 256) (hr : Rd w r a m cap p l) (hp : p ≤ m) (hd : l.drop p = t) (h1 : one = true) (h2 : stI l (p : Int) 45 = true) (h3 : stI l ((p : Int) + 1) 93 = false) (h4 : m ≤ p + 1) :
    Calls Tryd.prog 79 #[.pointer (some ⟨r, 0, none⟩), itV one b S p0] w fun e w' => e = .returned (.tuple #[setV S, .nilIface]) ∧ RdAt w' r a m cap (p) 2 ∧ w.grownBy w' (some r) := by
  have H1 := Lib.hid h1
  clear h1
  obtain ⟨r0, r1, r2, rf⟩ := hr.cells
  have hrl := hr.lt
  have hmc : m ≤ cap := hr.ms
  have hcs := hr.cs
  have hmb := hr.mb
  have HW := Lib.hid (RaW.mk' hr one b S p0)
  have i1 : (0 : Int) ≤ (p : Int) := by omega
  have i4 : IntKind.i64.wrap ((p : Int) + 1) = (p : Int) + 1 := by rw [IntKind.wrap_i64]; omega
  have hD : decide ((m : Int) ≤ (p : Int) + 1) = true := by simp; omega
  have hI : (m : Int) ≤ (p : Int) + 1 := by omega
  unfold itV wv
  go_enter Tryd.func79, Tryd.ntmps79
  go_upto_region 1 with fail
  generalize ((w.alloc (.cells #[.bool one, .int .u8 (iv b), .int .u64 (wd S 0), .int .u64 (wd S 1), .int .u64 (wd S 2), .int .u64 (wd S 3), .int .i64 p0] 122)).alloc (.cells #[.int .u64 0, .int .u64 0, .int .u64 0, .int .u64 0] 68)) = W0 at *
  have h1 := H1.out
  obtain ⟨y0, y1, y2, yf⟩ := HW.out.rd.cells
  obtain ⟨⟨x0, x1, x2, x3, x4, x5, x6⟩, -⟩ := HW.out.x.cells
  obtain ⟨z0, z1, z2, z3, zf0, zf1, zf2, zf3⟩ := HW.out.z.cells
  have n1 : ¬ r = w.heap.size + 1 := by omega
  have n2 : ¬ r = w.heap.size := by omega
  have n3 : ¬ w.heap.size = r := by omega
  have n4 : ¬ w.heap.size + 1 = r := by omega
  go_wp2_with fail
  go_quiet ((go_at_call 77; first | exact Calls.quiet_of ((HW.out.rd.drewN _).is hp _ _ (by omega) (by omega) (by omega) (by omega)) | exact quiet_add ((HW.out.rd.drewN _).is hp _ _ (by omega) (by omega) (by omega) (by omega))))
  go_wp2_with fail
  obtain ⟨Q, hQ⟩ : ∃ Q, Q = nq := ⟨_, rfl⟩
  have HF := Lib.hid ((HW.out.drewN nq).fin S)
  change bodyPost _ _ _ _ _ (put4 (W0.drewN nq) (w.heap.size + 1) S)
  generalize put4 (W0.drewN nq) (w.heap.size + 1) S = W8 at *
  obtain ⟨v0, v1, v2, v3, -⟩ := HF.out.2.2.1.cells
  (try simp only [Exit.inBlock, Exit.then])
  refine bodyPost_ret (v := .tuple #[setV S, .nilIface]) (by simp [results, Tryd.results79, go_sem, v0, v1, v2, v3, setV, wv]) rfl ?_
  exact ⟨rfl, HF.out.1, HF.out.2.1⟩

set_option maxRecDepth 100000 in
set_option maxHeartbeats 1600000 in
theorem ranged_err (w : World) (r : Nat) (a : Option Addr) (m cap p p0 : Nat) (l : List UInt8) (c d : UInt8) (u : List UInt8) (one : Bool) (b : UInt8) (S : BitVec 256) (hr : Rd w r a m cap p l) (hp : p ≤ m) (hd : l.drop p = c :: d :: u) (h1 : one = true) (h2 : c = 45) (h3 : d ≠ 93) (hx : itemS d u = none) :
    Calls Tryd.prog 79 #[.pointer (some ⟨r, 0, none⟩), itV one b S p0] w fun e w' => (∃ T t' v', e = .returned (.tuple #[setV T, .iface t' v'])) ∧ w.grownBy w' (some r) := by
  have HH1 := Lib.hid h1
  have hb2 : stI l (p : Int) 45 = true := st0_true hd (by rw [h2]; rfl)
  have hb3 : stI l ((p : Int) + 1) 93 = false := st1_false hd (fun e h => by simp at h; subst h; intro hh; exact h3 (iv_inj hh))
  obtain ⟨hlt, hlen, hdn⟩ := drop_lt c (d :: u) hd
  have hlm := hr.hm
  simp at hlen
  obtain ⟨k, hk⟩ : ∃ k : Nat, k = p + 1 := ⟨_, rfl⟩
  rw [← hk] at hdn
  have HK := Lib.hid hk
  have hkm : k < m := by omega
  have hpk : (p : Int) + 1 = (k : Int) := by omega
  have hD : decide ((m : Int) ≤ (k : Int)) = false := by simp; omega
  have hI : ¬ (m : Int) ≤ (k : Int) := by omega
  rw [hpk] at hb3
  have H1 := Lib.hid h1
  have HDN := Lib.hid hdn
  clear hk h1 h2 h3 hd hlt hlen hdn hlm
  obtain ⟨r0, r1, r2, rf⟩ := hr.cells
  have hrl := hr.lt
  have hmc : m ≤ cap := hr.ms
  have hcs := hr.cs
  have hmb := hr.mb
  have HW := Lib.hid (RaW.mk' hr one b S p0)
  have i1 : (0 : Int) ≤ (p : Int) := by omega
  have i4 : IntKind.i64.wrap ((p : Int) + 1) = (p : Int) + 1 := by rw [IntKind.wrap_i64]; omega
  rw [hpk] at i4
  unfold itV wv
  go_enter Tryd.func79, Tryd.ntmps79
  go_upto_region 1 with fail
  generalize ((w.alloc (.cells #[.bool one, .int .u8 (iv b), .int .u64 (wd S 0), .int .u64 (wd S 1), .int .u64 (wd S 2), .int .u64 (wd S 3), .int .i64 p0] 122)).alloc (.cells #[.int .u64 0, .int .u64 0, .int .u64 0, .int .u64 0] 68)) = W0 at *
  have h1 := H1.out
  obtain ⟨y0, y1, y2, yf⟩ := HW.out.rd.cells
  obtain ⟨⟨x0, x1, x2, x3, x4, x5, x6⟩, -⟩ := HW.out.x.cells
  obtain ⟨z0, z1, z2, z3, zf0, zf1, zf2, zf3⟩ := HW.out.z.cells
  have n1 : ¬ r = w.heap.size + 1 := by omega
  have n2 : ¬ r = w.heap.size := by omega
  have n3 : ¬ w.heap.size = r := by omega
  have n4 : ¬ w.heap.size + 1 = r := by omega
  go_wp2_with fail
  go_quiet ((go_at_call 77; first | exact Calls.quiet_of ((HW.out.rd.drewN _).is hp _ _ (by omega) (by omega) (by omega) (by omega)) | exact quiet_add ((HW.out.rd.drewN _).is hp _ _ (by omega) (by omega) (by omega) (by omega))))
  go_wp2_with fail
  have HB := Lib.hid ((HW.out.drewN nq).move k)
  change Calls _ _ _ ((W0.drewN nq).setCell ⟨r, 1, none⟩ (.int .i64 (k : Int))) _
  generalize ((W0.drewN nq).setCell ⟨r, 1, none⟩ (.int .i64 (k : Int))) = W1 at *
  refine (item_none W1 r a m cap k l d u HB.out.rd HDN.out hx).mono ?_; rintro e w5 ⟨⟨t', v', rfl⟩, g5⟩
  have H5 := Lib.hid (HB.out.gone g5)
  obtain ⟨Z0, hZ0⟩ : ∃ Z0 : BitVec 256, Z0 = 0 := ⟨_, rfl⟩
  rw [← hZ0]
  clear hZ0
  unfold itV wv
  go_upto_region 5 with fail
  have H6 := Lib.hid (H5.out.alloc (.cells #[.bool true, .int .u8 (iv 0), .int .u64 (wd Z0 0), .int .u64 (wd Z0 1), .int .u64 (wd Z0 2), .int .u64 (wd Z0 3), .int .i64 k] 122))
  generalize w5.alloc (.cells #[.bool true, .int .u8 (iv 0), .int .u64 (wd Z0 0), .int .u64 (wd Z0 1), .int .u64 (wd Z0 2), .int .u64 (wd Z0 3), .int .i64 k] 122) = W6 at *
  clear x0 x1 x2 x3 x4 x5 x6 z0 z1 z2 z3 zf0 zf1 zf2 zf3
  obtain ⟨⟨x0, x1, x2, x3, x4, x5, x6⟩, -⟩ := H6.out.x.cells
  obtain ⟨z0, z1, z2, z3, zf0, zf1, zf2, zf3⟩ := H6.out.z.cells
  go_wp2_with fail
  have HF := Lib.hid (H6.out.fin S)
  change bodyPost _ _ _ _ _ (put4 W6 (w.heap.size + 1) S)
  generalize put4 W6 (w.heap.size + 1) S = W8 at *
  obtain ⟨v0, v1, v2, v3, -⟩ := HF.out.2.cells
  (try simp only [Exit.inBlock, Exit.then])
  refine bodyPost_ret (v := .tuple #[setV S, .iface t' v']) (by simp [results, Tryd.results79, go_sem, v0, v1, v2, v3, setV, wv]) rfl ?_
  exact ⟨⟨_, _, _, rfl⟩, HF.out.1⟩

set_option maxRecDepth 100000 in
set_option maxHeartbeats 1600000 in
theorem ranged_cls (w : World) (r : Nat) (a : Option Addr) (m cap p p0 : Nat) (l : List UInt8) (c d : UInt8) (u : List UInt8) (one : Bool) (b : UInt8) (S : BitVec 256) (hr : Rd w r a m cap p l) (hp : p ≤ m) (hd : l.drop p = c :: d :: u) (h1 : one = true) (h2 : c = 45) (h3 : d ≠ 93) (y : It) (hx : itemS d u = some y) (hy : y.one = false) :
    Calls Tryd.prog 79 #[.pointer (some ⟨r, 0, none⟩), itV one b S p0] w fun e w' => (∃ T t' v', e = .returned (.tuple #[setV T, .iface t' v'])) ∧ w.grownBy w' (some r) := by
  have HYO := Lib.hid hy
  clear hy
  have HH1 := Lib.hid h1
  have hb2 : stI l (p : Int) 45 = true := st0_true hd (by rw [h2]; rfl)
  have hb3 : stI l ((p : Int) + 1) 93 = false := st1_false hd (fun e h => by simp at h; subst h; intro hh; exact h3 (iv_inj hh))
  obtain ⟨hlt, hlen, hdn⟩ := drop_lt c (d :: u) hd
  have hlm := hr.hm
  simp at hlen
  obtain ⟨k, hk⟩ : ∃ k : Nat, k = p + 1 := ⟨_, rfl⟩
  rw [← hk] at hdn
  have HK := Lib.hid hk
  have hkm : k < m := by omega
  have hpk : (p : Int) + 1 = (k : Int) := by omega
  have hD : decide ((m : Int) ≤ (k : Int)) = false := by simp; omega
  have hI : ¬ (m : Int) ≤ (k : Int) := by omega
  rw [hpk] at hb3
  have H1 := Lib.hid h1
  have HDN := Lib.hid hdn
  clear hk h1 h2 h3 hd hlt hlen hdn hlm
  obtain ⟨r0, r1, r2, rf⟩ := hr.cells
  have hrl := hr.lt
  have hmc : m ≤ cap := hr.ms
  have hcs := hr.cs
  have hmb := hr.mb
  have HW := Lib.hid (RaW.mk' hr one b S p0)
  have i1 : (0 : Int) ≤ (p : Int) := by omega
  have i4 : IntKind.i64.wrap ((p : Int) + 1) = (p : Int) + 1 := by rw [IntKind.wrap_i64]; omega
  rw [hpk] at i4
  unfold itV wv
  go_enter Tryd.func79, Tryd.ntmps79
  go_upto_region 1 with fail
  generalize ((w.alloc (.cells #[.bool one, .int .u8 (iv b), .int .u64 (wd S 0), .int .u64 (wd S 1), .int .u64 (wd S 2), .int .u64 (wd S 3), .int .i64 p0] 122)).alloc (.cells #[.int .u64 0, .int .u64 0, .int .u64 0, .int .u64 0] 68)) = W0 at *
  have h1 := H1.out
  obtain ⟨y0, y1, y2, yf⟩ := HW.out.rd.cells
  obtain ⟨⟨x0, x1, x2, x3, x4, x5, x6⟩, -⟩ := HW.out.x.cells
  obtain ⟨z0, z1, z2, z3, zf0, zf1, zf2, zf3⟩ := HW.out.z.cells
  have n1 : ¬ r = w.heap.size + 1 := by omega
  have n2 : ¬ r = w.heap.size := by omega
  have n3 : ¬ w.heap.size = r := by omega
  have n4 : ¬ w.heap.size + 1 = r := by omega
  go_wp2_with fail
  go_quiet ((go_at_call 77; first | exact Calls.quiet_of ((HW.out.rd.drewN _).is hp _ _ (by omega) (by omega) (by omega) (by omega)) | exact quiet_add ((HW.out.rd.drewN _).is hp _ _ (by omega) (by omega) (by omega) (by omega))))
  go_wp2_with fail
  have HB := Lib.hid ((HW.out.drewN nq).move k)
  change Calls _ _ _ ((W0.drewN nq).setCell ⟨r, 1, none⟩ (.int .i64 (k : Int))) _
  generalize ((W0.drewN nq).setCell ⟨r, 1, none⟩ (.int .i64 (k : Int))) = W1 at *
  refine (item_some W1 r a m cap k l d u HB.out.rd HDN.out y hx).mono ?_; rintro e w5 ⟨rfl, hr5, g5⟩
  have H5 := Lib.hid (HB.out.went g5 hr5)
  have HR5 := Lib.hid hr5
  clear hr5 g5 hx
  obtain ⟨yo, yb, yS, yk⟩ := y
  clear h1
  obtain rfl : one = true := HH1.out
  unfold itV wv
  go_upto_region 5 with fail
  have H6 := Lib.hid (H5.out.item yo yb yS k)
  have HV := Lib.hid (show w.heap.size + 1 < w5.heap.size from H5.out.z.lt)
  generalize w5.alloc (.cells #[.bool yo, .int .u8 (iv yb), .int .u64 (wd yS 0), .int .u64 (wd yS 1), .int .u64 (wd yS 2), .int .u64 (wd yS 3), .int .i64 k] 122) = W6 at *
  generalize w5.heap.size = Y at *
  clear x0 x1 x2 x3 x4 x5 x6 z0 z1 z2 z3 zf0 zf1 zf2 zf3
  obtain ⟨⟨x0, x1, x2, x3, x4, x5, x6⟩, -⟩ := H6.out.ra.x.cells
  obtain ⟨z0, z1, z2, z3, zf0, zf1, zf2, zf3⟩ := H6.out.ra.z.cells
  obtain ⟨⟨q0, q1, q2, q3, q4, q5, q6⟩, -⟩ := H6.out.y.cells
  have n5 : ¬ Y = w.heap.size + 1 := by have := HV.out; omega
  have n6 : ¬ w.heap.size + 1 = Y := by have := HV.out; omega
  obtain rfl : yo = false := HYO.out
  go_wp2_with fail
  go_region_held3 (fun W => W.cell? ⟨w.heap.size, 0, none⟩ = some (.bool true) ∧ W.cell? ⟨w.heap.size, 1, none⟩ = some (.int .u8 (iv b)) ∧ W.cell? ⟨w.heap.size, 2, none⟩ = some (.int .u64 (wd S 0)) ∧ W.cell? ⟨w.heap.size, 3, none⟩ = some (.int .u64 (wd S 1)) ∧ W.cell? ⟨w.heap.size, 4, none⟩ = some (.int .u64 (wd S 2)) ∧ W.cell? ⟨w.heap.size, 5, none⟩ = some (.int .u64 (wd S 3)) ∧ W.cell? ⟨w.heap.size, 6, none⟩ = some (.int .i64 p0) ∧ W.cell? ⟨Y, 0, none⟩ = some (.bool false) ∧ W.cell? ⟨Y, 1, none⟩ = some (.int .u8 (iv yb)) ∧ W.cell? ⟨Y, 2, none⟩ = some (.int .u64 (wd yS 0)) ∧ W.cell? ⟨Y, 3, none⟩ = some (.int .u64 (wd yS 1)) ∧ W.cell? ⟨Y, 4, none⟩ = some (.int .u64 (wd yS 2)) ∧ W.cell? ⟨Y, 5, none⟩ = some (.int .u64 (wd yS 3)) ∧ W.cell? ⟨Y, 6, none⟩ = some (.int .i64 k)) (first | with_reducible exact H9.out | with_reducible exact H8.out.s14 | with_reducible exact H6.out.s14 | with_reducible exact H6.out.drew.s14)
    ((go_at_call 63; refine ((H6.out.drew.ra.rd).fail _ (by omega) (by omega) _).mono ?_; rintro e w8 ⟨⟨t', v', rfl⟩, b8⟩; have H8 := Lib.hid (H6.out.drew.below b8); clear b8; obtain ⟨v0, v1, v2, v3, vf0, vf1, vf2, vf3⟩ := H8.out.ra.z.cells; have H9 := Lib.hid (H8.out.f14 S); unfold put4 at H9))
  have HF := Lib.hid (H8.out.ra.fin S)
  rename_i hHeld
  clear hHeld v0 v1 v2 v3
  change Exit.then _ _ _ _ (put4 w8 (w.heap.size + 1) S)
  generalize put4 w8 (w.heap.size + 1) S = W8 at *
  obtain ⟨v0, v1, v2, v3, -⟩ := HF.out.2.2.1.cells
  go_wp2_with fail
  (try simp only [Exit.inBlock, Exit.then])
  refine bodyPost_ret (v := .tuple #[setV S, .iface t' v']) (by simp [results, Tryd.results79, go_sem, v0, v1, v2, v3, setV, wv]) rfl ?_
  exact ⟨⟨_, _, _, rfl⟩, HF.out.2.1⟩

set_option maxRecDepth 100000 in
set_option maxHeartbeats 1600000 in
theorem ranged_low (w : World) (r : Nat) (a : Option Addr) (m cap p p0 : Nat) (l : List UInt8) (c d : UInt8) (u : List UInt8) (one : Bool) (b : UInt8) (S : BitVec 256) (hr : Rd w r a m cap p l) (hp : p ≤ m) (hd : l.drop p = c :: d :: u) (h1 : one = true) (h2 : c = 45) (h3 : d ≠ 93) (y : It) (hx : itemS d u = some y) (hy : y.one = true ∧ iv y.b < iv b) :
    Calls Tryd.prog 79 #[.pointer (some ⟨r, 0, none⟩), itV one b S p0] w fun e w' => (∃ T t' v', e = .returned (.tuple #[setV T, .iface t' v'])) ∧ w.grownBy w' (some r) := by
  have HYO := Lib.hid hy
  clear hy
  have HH1 := Lib.hid h1
  have hb2 : stI l (p : Int) 45 = true := st0_true hd (by rw [h2]; rfl)
  have hb3 : stI l ((p : Int) + 1) 93 = false := st1_false hd (fun e h => by simp at h; subst h; intro hh; exact h3 (iv_inj hh))
  obtain ⟨hlt, hlen, hdn⟩ := drop_lt c (d :: u) hd
  have hlm := hr.hm
  simp at hlen
  obtain ⟨k, hk⟩ : ∃ k : Nat, k = p + 1 := ⟨_, rfl⟩
  rw [← hk] at hdn
  have HK := Lib.hid hk
  have hkm : k < m := by omega
  have hpk : (p : Int) + 1 = (k : Int) := by omega
  have hD : decide ((m : Int) ≤ (k : Int)) = false := by simp; omega
  have hI : ¬ (m : Int) ≤ (k : Int) := by omega
  rw [hpk] at hb3
  have H1 := Lib.hid h1
  have HDN := Lib.hid hdn
  clear hk h1 h2 h3 hd hlt hlen hdn hlm
  obtain ⟨r0, r1, r2, rf⟩ := hr.cells
  have hrl := hr.lt
  have hmc : m ≤ cap := hr.ms
  have hcs := hr.cs
  have hmb := hr.mb
  have HW := Lib.hid (RaW.mk' hr one b S p0)
  have i1 : (0 : Int) ≤ (p : Int) := by omega
  have i4 : IntKind.i64.wrap ((p : Int) + 1) = (p : Int) + 1 := by rw [IntKind.wrap_i64]; omega
  rw [hpk] at i4
  unfold itV wv
  go_enter Tryd.func79, Tryd.ntmps79
  go_upto_region 1 with fail
  generalize ((w.alloc (.cells #[.bool one, .int .u8 (iv b), .int .u64 (wd S 0), .int .u64 (wd S 1), .int .u64 (wd S 2), .int .u64 (wd S 3), .int .i64 p0] 122)).alloc (.cells #[.int .u64 0, .int .u64 0, .int .u64 0, .int .u64 0] 68)) = W0 at *
  have h1 := H1.out
  obtain ⟨y0, y1, y2, yf⟩ := HW.out.rd.cells
  obtain ⟨⟨x0, x1, x2, x3, x4, x5, x6⟩, -⟩ := HW.out.x.cells
  obtain ⟨z0, z1, z2, z3, zf0, zf1, zf2, zf3⟩ := HW.out.z.cells
  have n1 : ¬ r = w.heap.size + 1 := by omega
  have n2 : ¬ r = w.heap.size := by omega
  have n3 : ¬ w.heap.size = r := by omega
  have n4 : ¬ w.heap.size + 1 = r := by omega
  go_wp2_with fail
  go_quiet ((go_at_call 77; first | exact Calls.quiet_of ((HW.out.rd.drewN _).is hp _ _ (by omega) (by omega) (by omega) (by omega)) | exact quiet_add ((HW.out.rd.drewN _).is hp _ _ (by omega) (by omega) (by omega) (by omega))))
  go_wp2_with fail
  have HB := Lib.hid ((HW.out.drewN nq).move k)
  change Calls _ _ _ ((W0.drewN nq).setCell ⟨r, 1, none⟩ (.int .i64 (k : Int))) _
  generalize ((W0.drewN nq).setCell ⟨r, 1, none⟩ (.int .i64 (k : Int))) = W1 at *
  refine (item_some W1 r a m cap k l d u HB.out.rd HDN.out y hx).mono ?_; rintro e w5 ⟨rfl, hr5, g5⟩
  have H5 := Lib.hid (HB.out.went g5 hr5)
  have HR5 := Lib.hid hr5
  clear hr5 g5 hx
  obtain ⟨yo, yb, yS, yk⟩ := y
  clear h1
  obtain rfl : one = true := HH1.out
  unfold itV wv
  go_upto_region 5 with fail
  have H6 := Lib.hid (H5.out.item yo yb yS k)
  have HV := Lib.hid (show w.heap.size + 1 < w5.heap.size from H5.out.z.lt)
  generalize w5.alloc (.cells #[.bool yo, .int .u8 (iv yb), .int .u64 (wd yS 0), .int .u64 (wd yS 1), .int .u64 (wd yS 2), .int .u64 (wd yS 3), .int .i64 k] 122) = W6 at *
  generalize w5.heap.size = Y at *
  clear x0 x1 x2 x3 x4 x5 x6 z0 z1 z2 z3 zf0 zf1 zf2 zf3
  obtain ⟨⟨x0, x1, x2, x3, x4, x5, x6⟩, -⟩ := H6.out.ra.x.cells
  obtain ⟨z0, z1, z2, z3, zf0, zf1, zf2, zf3⟩ := H6.out.ra.z.cells
  obtain ⟨⟨q0, q1, q2, q3, q4, q5, q6⟩, -⟩ := H6.out.y.cells
  have n5 : ¬ Y = w.heap.size + 1 := by have := HV.out; omega
  have n6 : ¬ w.heap.size + 1 = Y := by have := HV.out; omega
  obtain ⟨rfl, hyb⟩ : yo = true ∧ iv yb < iv b := HYO.out
  go_wp2_with fail
  go_region_held3 (fun W => W.cell? ⟨w.heap.size, 0, none⟩ = some (.bool true) ∧ W.cell? ⟨w.heap.size, 1, none⟩ = some (.int .u8 (iv b)) ∧ W.cell? ⟨w.heap.size, 2, none⟩ = some (.int .u64 (wd S 0)) ∧ W.cell? ⟨w.heap.size, 3, none⟩ = some (.int .u64 (wd S 1)) ∧ W.cell? ⟨w.heap.size, 4, none⟩ = some (.int .u64 (wd S 2)) ∧ W.cell? ⟨w.heap.size, 5, none⟩ = some (.int .u64 (wd S 3)) ∧ W.cell? ⟨w.heap.size, 6, none⟩ = some (.int .i64 p0) ∧ W.cell? ⟨Y, 0, none⟩ = some (.bool true) ∧ W.cell? ⟨Y, 1, none⟩ = some (.int .u8 (iv yb)) ∧ W.cell? ⟨Y, 2, none⟩ = some (.int .u64 (wd yS 0)) ∧ W.cell? ⟨Y, 3, none⟩ = some (.int .u64 (wd yS 1)) ∧ W.cell? ⟨Y, 4, none⟩ = some (.int .u64 (wd yS 2)) ∧ W.cell? ⟨Y, 5, none⟩ = some (.int .u64 (wd yS 3)) ∧ W.cell? ⟨Y, 6, none⟩ = some (.int .i64 k)) (first | with_reducible exact H9.out | with_reducible exact H8.out.s14 | with_reducible exact H6.out.s14 | with_reducible exact H6.out.drew.s14)
    ((go_at_call 63; refine ((H6.out.drew.ra.rd).fail _ (by omega) (by omega) _).mono ?_; rintro e w8 ⟨⟨t', v', rfl⟩, b8⟩; have H8 := Lib.hid (H6.out.drew.below b8); clear b8; obtain ⟨v0, v1, v2, v3, vf0, vf1, vf2, vf3⟩ := H8.out.ra.z.cells; have H9 := Lib.hid (H8.out.f14 S); unfold put4 at H9))
  have HF := Lib.hid (H8.out.ra.fin S)
  rename_i hHeld
  clear hHeld v0 v1 v2 v3
  change Exit.then _ _ _ _ (put4 w8 (w.heap.size + 1) S)
  generalize put4 w8 (w.heap.size + 1) S = W8 at *
  obtain ⟨v0, v1, v2, v3, -⟩ := HF.out.2.2.1.cells
  go_wp2_with fail
  (try simp only [Exit.inBlock, Exit.then])
  refine bodyPost_ret (v := .tuple #[setV S, .iface t' v']) (by simp [results, Tryd.results79, go_sem, v0, v1, v2, v3, setV, wv]) rfl ?_
  exact ⟨⟨_, _, _, rfl⟩, HF.out.2.1⟩

set_option maxRecDepth 100000 in
set_option maxHeartbeats 1600000 in
theorem ranged_ok (w : World) (r : Nat) (a : Option Addr) (m cap p p0 : Nat) (l : List UInt8) (c d : UInt8) (u : List UInt8) (one : Bool) (b : UInt8) (S : BitVec 256) (hr : Rd w r a m cap p l) (hp : p ≤ m) (hd : l.drop p = c :: d :: u) (h1 : one = true) (h2 : c = 45) (h3 : d ≠ 93) (y : It) (hx : itemS d u = some y) (hy : y.one = true ∧ iv b ≤ iv y.b) :
    Calls Tryd.prog 79 #[.pointer (some ⟨r, 0, none⟩), itV one b S p0] w fun e w' => e = .returned (.tuple #[setV (rangeS b.toNat y.b.toNat), .nilIface]) ∧ RdAt w' r a m cap (p + (y.k + 2)) 2 ∧ w.grownBy w' (some r) := by
  have HYO := Lib.hid hy
  clear hy
  have HH1 := Lib.hid h1
  have hb2 : stI l (p : Int) 45 = true := st0_true hd (by rw [h2]; rfl)
  have hb3 : stI l ((p : Int) + 1) 93 = false := st1_false hd (fun e h => by simp at h; subst h; intro hh; exact h3 (iv_inj hh))
  obtain ⟨hlt, hlen, hdn⟩ := drop_lt c (d :: u) hd
  have hlm := hr.hm
  simp at hlen
  obtain ⟨k, hk⟩ : ∃ k : Nat, k = p + 1 := ⟨_, rfl⟩
  rw [← hk] at hdn
  have HK := Lib.hid hk
  have hkm : k < m := by omega
  have hpk : (p : Int) + 1 = (k : Int) := by omega
  have hD : decide ((m : Int) ≤ (k : Int)) = false := by simp; omega
  have hI : ¬ (m : Int) ≤ (k : Int) := by omega
  rw [hpk] at hb3
  have H1 := Lib.hid h1
  have HDN := Lib.hid hdn
  clear hk h1 h2 h3 hd hlt hlen hdn hlm
  obtain ⟨r0, r1, r2, rf⟩ := hr.cells
  have hrl := hr.lt
  have hmc : m ≤ cap := hr.ms
  have hcs := hr.cs
  have hmb := hr.mb
  have HW := Lib.hid (RaW.mk' hr one b S p0)
  have i1 : (0 : Int) ≤ (p : Int) := by omega
  have i4 : IntKind.i64.wrap ((p : Int) + 1) = (p : Int) + 1 := by rw [IntKind.wrap_i64]; omega
  rw [hpk] at i4
  unfold itV wv
  go_enter Tryd.func79, Tryd.ntmps79
  go_upto_region 1 with fail
  generalize ((w.alloc (.cells #[.bool one, .int .u8 (iv b), .int .u64 (wd S 0), .int .u64 (wd S 1), .int .u64 (wd S 2), .int .u64 (wd S 3), .int .i64 p0] 122)).alloc (.cells #[.int .u64 0, .int .u64 0, .int .u64 0, .int .u64 0] 68)) = W0 at *
  have h1 := H1.out
  obtain ⟨y0, y1, y2, yf⟩ := HW.out.rd.cells
  obtain ⟨⟨x0, x1, x2, x3, x4, x5, x6⟩, -⟩ := HW.out.x.cells
  obtain ⟨z0, z1, z2, z3, zf0, zf1, zf2, zf3⟩ := HW.out.z.cells
  have n1 : ¬ r = w.heap.size + 1 := by omega
  have n2 : ¬ r = w.heap.size := by omega
  have n3 : ¬ w.heap.size = r := by omega
  have n4 : ¬ w.heap.size + 1 = r := by omega
  go_wp2_with fail
  go_quiet ((go_at_call 77; first | exact Calls.quiet_of ((HW.out.rd.drewN _).is hp _ _ (by omega) (by omega) (by omega) (by omega)) | exact quiet_add ((HW.out.rd.drewN _).is hp _ _ (by omega) (by omega) (by omega) (by omega))))
  go_wp2_with fail
  have HB := Lib.hid ((HW.out.drewN nq).move k)
  change Calls _ _ _ ((W0.drewN nq).setCell ⟨r, 1, none⟩ (.int .i64 (k : Int))) _
  generalize ((W0.drewN nq).setCell ⟨r, 1, none⟩ (.int .i64 (k : Int))) = W1 at *
  refine (item_some W1 r a m cap k l d u HB.out.rd HDN.out y hx).mono ?_; rintro e w5 ⟨rfl, hr5, g5⟩
  have H5 := Lib.hid (HB.out.went g5 hr5)
  have HR5 := Lib.hid hr5
  clear hr5 g5 hx
  obtain ⟨yo, yb, yS, yk⟩ := y
  clear h1
  obtain rfl : one = true := HH1.out
  unfold itV wv
  go_upto_region 5 with fail
  have H6 := Lib.hid (H5.out.item yo yb yS k)
  have HV := Lib.hid (show w.heap.size + 1 < w5.heap.size from H5.out.z.lt)
  generalize w5.alloc (.cells #[.bool yo, .int .u8 (iv yb), .int .u64 (wd yS 0), .int .u64 (wd yS 1), .int .u64 (wd yS 2), .int .u64 (wd yS 3), .int .i64 k] 122) = W6 at *
  generalize w5.heap.size = Y at *
  clear x0 x1 x2 x3 x4 x5 x6 z0 z1 z2 z3 zf0 zf1 zf2 zf3
  obtain ⟨⟨x0, x1, x2, x3, x4, x5, x6⟩, -⟩ := H6.out.ra.x.cells
  obtain ⟨z0, z1, z2, z3, zf0, zf1, zf2, zf3⟩ := H6.out.ra.z.cells
  obtain ⟨⟨q0, q1, q2, q3, q4, q5, q6⟩, -⟩ := H6.out.y.cells
  have n5 : ¬ Y = w.heap.size + 1 := by have := HV.out; omega
  have n6 : ¬ w.heap.size + 1 = Y := by have := HV.out; omega
  obtain ⟨rfl, hyb⟩ : yo = true ∧ iv b ≤ iv yb := HYO.out
  have HRG := Lib.hid (fun w : World => (range_any b.toNat yb.toNat w (by have := b.toNat_lt; omega) (by have := yb.toNat_lt; omega) : Calls Tryd.prog 90 #[.int .u8 (iv b), .int .u8 (iv yb)] w fun e w' => e = .returned (setV (rangeS b.toNat yb.toNat)) ∧ Below w.heap.size w w'))
  generalize hRR : rangeS b.toNat yb.toNat = R at *
  have HRR := Lib.hid hRR
  clear hRR
  unfold setV wv at HRG
  go_wp2_with fail
  refine (HRG.out _).mono ?_; rintro e w8 ⟨rfl, b8⟩
  have H8 := Lib.hid (H6.out.below b8)
  clear b8 z0 z1 z2 z3 zf0 zf1 zf2 zf3
  obtain ⟨z0, z1, z2, z3, zf0, zf1, zf2, zf3⟩ := H8.out.ra.z.cells
  go_wp2_with fail
  have HF := Lib.hid (H8.out.ra.fin R)
  change bodyPost _ _ _ _ _ (put4 w8 (w.heap.size + 1) R)
  generalize put4 w8 (w.heap.size + 1) R = W8 at *
  obtain ⟨v0, v1, v2, v3, -⟩ := HF.out.2.2.1.cells
  (try simp only [Exit.inBlock, Exit.then])
  refine bodyPost_ret (v := .tuple #[setV R, .nilIface]) (by simp [results, Tryd.results79, go_sem, v0, v1, v2, v3, setV, wv]) rfl ?_
  rw [show p + (yk + 2) = k + (yk + 1) by rw [HK.out]; omega, show rangeS b.toNat (It.mk true yb yS yk).b.toNat = R from HRR.out]
  exact ⟨rfl, HF.out.1, HF.out.2.1⟩

theorem ranged_none (w : World) (r : Nat) (a : Option Addr) (m cap p p0 : Nat) (l : List UInt8) (t : List UInt8) (one : Bool) (b : UInt8) (S : BitVec 256) (hr : Rd w r a m cap p l) (hp : p ≤ m) (hd : l.drop p = t) (k : Nat) (hx : rangedS ⟨one, b, S, k⟩ t = none) :
    Calls Tryd.prog 79 #[.pointer (some ⟨r, 0, none⟩), itV one b S p0] w fun e w' => (∃ T t' v', e = .returned (.tuple #[setV T, .iface t' v'])) ∧ w.grownBy w' (some r) := by
  unfold rangedS at hx
  by_cases h1 : one = true ∧ t.head? = some 45
  · rw [if_pos h1] at hx
    obtain ⟨h1, h2⟩ := h1
    match t, hd, h2, hx with
    | [], _, h2, _ => simp at h2
    | [_], _, _, hx => cases hx
    | c :: d :: u, hd, h2, hx =>
      have h2' : c = 45 := by simpa using h2
      by_cases h3 : d = 93
      · simp only [h3, if_true] at hx; cases hx
      simp only [if_neg h3] at hx
      cases hi : itemS d u with
      | none => exact ranged_err w r a m cap p p0 l c d u one b S hr hp hd h1 h2' h3 hi
      | some y =>
        rw [hi] at hx
        by_cases h4 : y.one = false
        · exact ranged_cls w r a m cap p p0 l c d u one b S hr hp hd h1 h2' h3 y hi h4
        have h4' : y.one = true := by simpa using h4
        simp only [h4', if_neg (show ¬ (true = false) by simp)] at hx
        by_cases h5 : y.b < b
        · exact ranged_low w r a m cap p p0 l c d u one b S hr hp hd h1 h2' h3 y hi ⟨h4', by unfold iv; rw [UInt8.lt_iff_toNat_lt] at h5; omega⟩
        · rw [if_neg h5] at hx; cases hx
  · rw [if_neg h1] at hx; cases hx
theorem st_none {l : List UInt8} {p : Nat} {t : List UInt8} (hd : l.drop p = t) (x : Int) (k : UInt8) (hk : iv k = x) (h : t.head? ≠ some k) : stI l (p : Int) x = false := by
  cases t with
  | nil =>
    unfold stI stands
    rw [Int.toNat_natCast, List.getElem?_eq_none (by have := congrArg List.length hd; simp at this; omega)]
  | cons c t => exact st0_false hd (fun e => h (by rw [iv_inj (e.trans hk.symm)]; rfl))
theorem ranged_some (w : World) (r : Nat) (a : Option Addr) (m cap p p0 : Nat) (l : List UInt8) (t : List UInt8) (one : Bool) (b : UInt8) (S : BitVec 256) (hr : Rd w r a m cap p l) (hp : p ≤ m) (hd : l.drop p = t) (k : Nat) (q : BitVec 256 × Nat) (hx : rangedS ⟨one, b, S, k⟩ t = some q) :
    Calls Tryd.prog 79 #[.pointer (some ⟨r, 0, none⟩), itV one b S p0] w fun e w' => e = .returned (.tuple #[setV q.1, .nilIface]) ∧ RdAt w' r a m cap (p + q.2) 2 ∧ w.grownBy w' (some r) := by
  unfold rangedS at hx
  by_cases h1 : one = true ∧ t.head? = some 45
  · rw [if_pos h1] at hx
    obtain ⟨h1, h2⟩ := h1
    match t, hd, h2, hx with
    | [], _, h2, _ => simp at h2
    | [c], hd, h2, hx =>
      obtain rfl := Option.some.inj hx
      have h2' : c = 45 := by simpa using h2
      exact ranged_end w r a m cap p p0 l [c] one b S hr hp hd h1 (st0_true hd (by rw [h2']; rfl)) (st1_false hd (fun d e => by simp at e)) (by have := (drop_lt c [] hd).2.1; have := hr.hm; simp at *; omega)
    | c :: d :: u, hd, h2, hx =>
      have h2' : c = 45 := by simpa using h2
      by_cases h3 : d = 93
      · simp only [h3, if_true] at hx
        obtain rfl := Option.some.inj hx
        exact ranged_last w r a m cap p p0 l (c :: d :: u) one b S hr hp hd h1 (st0_true hd (by rw [h2']; rfl)) (st1_true hd (d := d) rfl (by rw [h3]; rfl))
      simp only [if_neg h3] at hx
      cases hi : itemS d u with
      | none => rw [hi] at hx; cases hx
      | some y =>
        rw [hi] at hx
        by_cases h4 : y.one = false
        · simp only [h4, if_true] at hx; cases hx
        have h4' : y.one = true := by simpa using h4
        simp only [h4', if_neg (show ¬ (true = false) by simp)] at hx
        by_cases h5 : y.b < b
        · rw [if_pos h5] at hx; cases hx
        · rw [if_neg h5] at hx
          obtain rfl := Option.some.inj hx
          exact ranged_ok w r a m cap p p0 l c d u one b S hr hp hd h1 h2' h3 y hi ⟨h4', by unfold iv; rw [UInt8.lt_iff_toNat_lt] at h5; omega⟩
  · rw [if_neg h1] at hx
    obtain rfl := Option.some.inj hx
    by_cases h2 : one = true
    · exact ranged_nodash w r a m cap p p0 l t one b S hr hp hd h2 (st_none hd 45 45 rfl (fun e => h1 ⟨h2, e⟩))
    · exact ranged_many w r a m cap p p0 l t one b S hr hp hd (by simpa using h2)

end Go.Proofs.YtafmhhhboihdfaaDoor
