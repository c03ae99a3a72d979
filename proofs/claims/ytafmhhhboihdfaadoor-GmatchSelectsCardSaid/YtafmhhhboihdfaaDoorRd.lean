/-
  A bracket's reader: what holds of the memory that it stands in. Conditions: those that each theorem names.
-/
import Derived.Test.YtafmhhhboihdfaaDoorFail
import Derived.Test.YtafmhhhboihdfaaDoorSpec
import Derived.Lib.SlBytesRow
import Derived.Deep.QuietTactic
namespace Go.Proofs.YtafmhhhboihdfaaDoor
open Go.RowKit
set_option linter.unusedVariables false
/-- does a byte stand at a place that is told as an int? -/
def stI (l : List UInt8) (i x : Int) : Bool := stands l i.toNat x
theorem is_at (w : World) (r : Nat) (a : Option Addr) (m cap p : Nat) (lang : Int) (l : List UInt8) (k x : Int) (hm : l.length = m) (hr : RdAt w r a m cap p lang) (hb : HasB w a l)
    (hmb : m ≤ 140737488351232) (hms : m ≤ cap) (hcs : cap ≤ 9223372036854775807) (hp : p ≤ m) (hk0 : 0 ≤ k) (hk : k ≤ 2) (hx0 : 0 ≤ x) (hx1 : x ≤ 255) :
    Calls Tryd.prog 77 #[.pointer (some ⟨r, 0, none⟩), .int .i64 k, .int .u8 x] w fun e w' => e = .returned (.bool (stI l ((p : Int) + k) x)) ∧ ∃ q, w' = w.drewN q := by
  obtain ⟨n, rfl⟩ := Int.eq_ofNat_of_zero_le hk0
  have h := is_any w r a m cap p lang l n x hm hr hb hmb hms hcs hp (by omega) hx0 hx1
  have e : stands l (p + n) x = stI l ((p : Int) + (n : Int)) x := by unfold stI; congr 1
  rw [e] at h
  exact h
/-- the package variables that the program's own functions read -/
def Glob (w : World) : Prop := Errs w ∧ ∃ k, w.cell? ⟨21, 0, none⟩ = some (.int .i64 k)
theorem Glob.size {w : World} (h : Glob w) : 22 ≤ w.heap.size := by
  obtain ⟨-, k, hk⟩ := h
  rcases Nat.lt_or_ge 21 w.heap.size with h | h
  · omega
  · rw [World.cell?, Array.getElem?_eq_none h] at hk; cases hk
theorem Glob.of {w w' : World} (h : Glob w) (hs : w.heap.size ≤ w'.heap.size) (hk : ∀ k, k < 22 → w'.heap[k]? = w.heap[k]?) : Glob w' :=
  ⟨⟨Nat.le_trans h.1.1 hs, fun k hk' => by
    obtain ⟨t, v, hc⟩ := h.1.2 k hk'
    exact ⟨t, v, (World.cell?_of_block (a := ⟨k, 0, none⟩) (hk k (by omega))).trans hc⟩⟩, by
    obtain ⟨k, hc⟩ := h.2
    exact ⟨k, (World.cell?_of_block (a := ⟨21, 0, none⟩) (hk 21 (by omega))).trans hc⟩⟩
theorem Glob.below {w w' : World} {B : Nat} (h : Glob w) (b : Below B w w') (hB : 22 ≤ B) (hs : w.heap.size ≤ w'.heap.size) : Glob w' := h.of hs fun k hk => b.block k (by omega)
theorem Glob.below' {w w' : World} (h : Glob w) (b : Below w.heap.size w w') : Glob w' := h.below b h.size b.size
theorem Glob.grown {w w' : World} {r : Nat} (h : Glob w) (b : w.grownBy w' (some r)) (hr : 22 ≤ r) : Glob w' :=
  h.of b.size fun k hk => b.block k (by have := h.size; omega) (fun e => by have := Option.some.inj e; omega)
/-- the block r holds a reader of a glob's bytes at a place -/
structure Rd (w : World) (r : Nat) (a : Option Addr) (m cap p : Nat) (l : List UInt8) : Prop where
  rd : RdAt w r a m cap p 2
  b : l = [] ∨ ∃ b off, a = some ⟨b, off, none⟩ ∧ b < r ∧ ∀ i (h : i < l.length), w.cell? ⟨b, off + i, none⟩ = some (.int .u8 (iv l[i]))
  g : Glob w
  rr : 22 ≤ r
  hm : l.length = m
  ms : m ≤ cap
  cs : cap ≤ 9223372036854775807
  mb : m ≤ 256
section
variable {w w' : World} {r : Nat} {a : Option Addr} {m cap p p' : Nat} {l : List UInt8}
theorem Rd.lt (h : Rd w r a m cap p l) : r < w.heap.size := (Array.getElem?_eq_some_iff.1 (show w.heap[r]? = _ from h.rd)).1
theorem Rd.hb (h : Rd w r a m cap p l) : HasB w a l := by
  rcases h.b with h1 | ⟨b, off, h1, h2, h3⟩
  · exact .inl h1
  · exact .inr ⟨b, off, h1, Nat.lt_trans h2 h.lt, h3⟩
theorem Rd.grown (h : Rd w r a m cap p l) (g : w.grownBy w' (some r)) (hr : RdAt w' r a m cap p' 2) : Rd w' r a m cap p' l := by
  refine ⟨hr, ?_, h.g.grown g h.rr, h.rr, h.hm, h.ms, h.cs, h.mb⟩
  rcases h.b with h1 | ⟨b, off, h1, h2, h3⟩
  · exact .inl h1
  · refine .inr ⟨b, off, h1, h2, fun i hi => (World.cell?_of_block (a := ⟨b, off + i, none⟩) (g.block b (Nat.lt_trans h2 h.lt) (fun e => ?_))).trans (h3 i hi)⟩
    have := Option.some.inj e; omega
theorem Rd.kept (h : Rd w r a m cap p l) {row : Option Nat} (g : w.grownBy w' row) (hr : ∀ k, row = some k → w.heap.size ≤ k) : Rd w' r a m cap p l := by
  have hb : ∀ k, k < w.heap.size → w'.heap[k]? = w.heap[k]? := fun k hk => g.block k hk (fun e => by have := hr k e.symm; omega)
  refine h.grown ⟨g.os, g.tape, g.output, g.size, fun k hk _ => hb k hk⟩ ?_
  exact (hb r h.lt).trans h.rd
theorem Rd.below (h : Rd w r a m cap p l) (b : Below w.heap.size w w') : Rd w' r a m cap p l :=
  h.kept (row := none) ⟨b.os, b.tape, b.output, b.size, fun k hk _ => b.block k hk⟩ (fun k e => by cases e)
theorem Rd.belowB {B : Nat} (h : Rd w r a m cap p l) (b : Below B w w') (hB : r < B) : Rd w' r a m cap p l := by
  refine ⟨(b.block r hB).trans h.rd, ?_, h.g.below b (by have := h.rr; omega) b.size, h.rr, h.hm, h.ms, h.cs, h.mb⟩
  rcases h.b with h1 | ⟨b', off, h1, h2, h3⟩
  · exact .inl h1
  · exact .inr ⟨b', off, h1, h2, fun i hi => (b.cell (p := ⟨b', off + i, none⟩) (show b' < B by omega)).trans (h3 i hi)⟩
theorem Rd.alloc (h : Rd w r a m cap p l) (o : Obj) : Rd (w.alloc o) r a m cap p l := h.below ((Below.refl _ _).alloc (Nat.le_refl _) _)
theorem Rd.drewN (h : Rd w r a m cap p l) (n : Nat) : Rd (w.drewN n) r a m cap p l := h.kept (row := none) (drewN_grown w n none) (fun k e => by cases e)
theorem Rd.drew (h : Rd w r a m cap p l) : Rd w.drew r a m cap p l := h.kept (row := none) (drew_grown w none) (fun k e => by cases e)
theorem Rd.move (h : Rd w r a m cap p l) (p' : Nat) : Rd (w.setCell ⟨r, 1, none⟩ (.int .i64 p')) r a m cap p' l :=
  h.grown (grown_setCell w r 1 _) (heap_setCell_at w r 1 _ 104 (0, 0) _ h.rd)
theorem Rd.is (h : Rd w r a m cap p l) (hp : p ≤ m) (k x : Int) (hk0 : 0 ≤ k) (hk : k ≤ 2) (hx0 : 0 ≤ x) (hx1 : x ≤ 255) :
    Calls Tryd.prog 77 #[.pointer (some ⟨r, 0, none⟩), .int .i64 k, .int .u8 x] w fun e w' => e = .returned (.bool (stI l ((p : Int) + k) x)) ∧ ∃ q, w' = w.drewN q :=
  is_at w r a m cap p 2 l k x h.hm h.rd h.hb (by have := h.mb; omega) h.ms h.cs hp hk0 hk hx0 hx1
theorem Rd.fail (h : Rd w r a m cap p l) (c : Int) (hc : 1 ≤ c) (hc2 : c ≤ 10) (pos : Int) :
    Calls Tryd.prog 63 #[.pointer (some ⟨r, 0, none⟩), .int .i64 c, .int .i64 pos] w fun e w' => (∃ t v, e = .returned (.iface t v)) ∧ Below w.heap.size w w' := by
  obtain ⟨n, rfl⟩ := Int.eq_ofNat_of_zero_le (show 0 ≤ c by omega)
  exact fail_any w r a m cap p 2 n pos h.rd h.g.1 (by omega) (by omega)
theorem Rd.cells (h : Rd w r a m cap p l) : w.cell? ⟨r, 0, none⟩ = some (.slice a m cap) ∧ w.cell? ⟨r, 1, none⟩ = some (.int .i64 p) ∧ w.cell? ⟨r, 2, none⟩ = some (.int .i64 2) ∧
    w.frozen? ⟨r, 1, none⟩ = false := by
  have h1 : w.heap[r]? = _ := h.rd
  refine ⟨?_, ?_, ?_, ?_⟩
  all_goals first
    | (rw [World.cell?, h1]; rfl)
    | (rw [World.frozen?, h1]; rfl)
/-- what stands at the place and behind it -/
theorem st_drop (c : UInt8) (t : List UInt8) (hd : l.drop p = c :: t) (x : Int) : stI l (p : Int) x = (iv c == x) ∧ stI l ((p : Int) + 1) x = (match t with | d :: _ => iv d == x | [] => false) := by
  have h0 : l[p]? = some c := by rw [← List.head?_drop, hd]; rfl
  have h1 : l[p + 1]? = t.head? := by
    rw [← List.head?_drop, show l.drop (p + 1) = (l.drop p).drop 1 by rw [List.drop_drop], hd]; rfl
  unfold stI stands
  rw [Int.toNat_natCast, h0, show ((p : Int) + 1).toNat = p + 1 by omega, h1]
  refine ⟨rfl, ?_⟩
  cases t <;> rfl
theorem st0_true {c : UInt8} {t : List UInt8} (hd : l.drop p = c :: t) {x : Int} (hx : iv c = x) : stI l (p : Int) x = true := by rw [(st_drop c t hd x).1, hx]; simp
theorem st0_false {c : UInt8} {t : List UInt8} (hd : l.drop p = c :: t) {x : Int} (hx : iv c ≠ x) : stI l (p : Int) x = false := by rw [(st_drop c t hd x).1]; simpa using hx
theorem st1_true {c d : UInt8} {t : List UInt8} (hd : l.drop p = c :: t) {x : Int} (ht : t.head? = some d) (hx : iv d = x) : stI l ((p : Int) + 1) x = true := by
  rw [(st_drop c t hd x).2]
  cases t with
  | nil => simp at ht
  | cons e t => simp at ht; subst ht; simpa using hx
theorem st1_false {c : UInt8} {t : List UInt8} (hd : l.drop p = c :: t) {x : Int} (hx : ∀ d, t.head? = some d → iv d ≠ x) : stI l ((p : Int) + 1) x = false := by
  rw [(st_drop c t hd x).2]
  cases t with
  | nil => rfl
  | cons e t => simpa using hx e rfl
theorem Rd.far (h : Rd w r a m cap p l) {k : Nat} (g : w.grownBy w' (some k)) (hk : r < k) : Rd w' r a m cap p l :=
  h.belowB (B := r + 1) ⟨g.os, g.tape, g.output, g.size, fun j hj => g.block j (by have := h.lt; omega) (fun e => by have := Option.some.inj e; omega)⟩ (by omega)
theorem drop_lt (c : UInt8) (t : List UInt8) (hd : l.drop p = c :: t) : p < l.length ∧ t.length + p + 1 = l.length ∧ l.drop (p + 1) = t := by
  have h := congrArg List.length hd
  simp at h
  refine ⟨by omega, by omega, ?_⟩
  rw [show l.drop (p + 1) = (l.drop p).drop 1 by rw [List.drop_drop], hd]; rfl
theorem Rd.byte {bb off i : Nat} (h : Rd w r (some ⟨bb, off, none⟩) m cap p l) (hi : i < l.length) : w.cell? ⟨bb, off + i, none⟩ = some (.int .u8 (iv l[i])) := by
  rcases h.b with h1 | ⟨b', off', h1, h2, h3⟩
  · subst h1; simp at hi
  · cases h1; exact h3 i hi
theorem get_drop {c : UInt8} {t : List UInt8} (hd : l.drop p = c :: t) (hi : p < l.length) : l[p] = c := by
  have h0 : l[p]? = some c := by rw [← List.head?_drop, hd]; rfl
  rw [List.getElem?_eq_getElem hi] at h0
  exact Option.some.inj h0
theorem size5 (w : World) : (Go.sizeOf 5).run Tryd.prog w = .ok 1 w := by kernel_rfl
/-- 's[p:p+1]' -/
theorem slice_one (bb off m cap p : Nat) (hh : p + 1 ≤ cap) (W : World) :
    (Instr.slice 22 (.slice (some ⟨bb, off, none⟩) m cap) (some (.int .i64 (p : Int))) (some (.int .i64 ((p : Int) + 1))) none).run Tryd.prog W = .ok (.slice (some ⟨bb, off + p, none⟩) 1 (cap - p)) W := by
  have h := Lib.run_slice_window (P := Tryd.prog) W 22 5 Tryd.underlying22 size5 bb off m cap p (p + 1) (by omega) hh
  rw [show ((p + 1 : Nat) : Int) = (p : Int) + 1 by omega, show p + 1 - p = 1 by omega] at h
  exact h
theorem conv_cells (w : World) (bb g n cap : Nat) (l : List UInt8) (hl : l.length = n) (hc : ∀ i (hi : i < l.length), w.cell? ⟨bb, g + i, none⟩ = some (.int .u8 (iv l[i]))) :
    (convert 22 9 (.slice (some ⟨bb, g, none⟩) n cap)).run Tryd.prog w = .ok (.string ⟨l.toArray⟩) w := by
  subst hl
  refine run_convert_bytes_back w 22 9 5 ⟨bb, g, none⟩ cap l Tryd.underlying22 Tryd.underlying5 Tryd.underlying9 fun j hj => ?_
  have hadd : (⟨bb, g, none⟩ : Addr).add j = ⟨bb, g + j, none⟩ := by unfold Addr.add; split <;> simp_all
  rw [hadd]
  exact hc j hj
theorem quiet_add {P : Program} {f : FuncId} {args : Array Value} {w : World} {a n : Nat} {v : Value}
    (h : Calls P f args (w.drewN (a + n)) fun e w' => e = .returned v ∧ ∃ m, w' = (w.drewN (a + n)).drewN m) :
    Calls P f args (w.drewN (a + n)) fun e w'' => e = .returned v ∧ ∃ m, w'' = w.drewN (a + m) :=
  h.mono fun _ _ ⟨he, m, hm⟩ => ⟨he, n + m, by rw [hm, World.drewN_drewN, Nat.add_assoc]⟩
/-- 's[k:]', and that as a string -/
theorem slice_tail (bb off m cap k : Nat) (hk : k ≤ m) (hm : m ≤ cap) (W : World) :
    (Instr.slice 22 (.slice (some ⟨bb, off, none⟩) m cap) (some (.int .i64 (k : Int))) none none).run Tryd.prog W = .ok (.slice (some (if cap = k then ⟨bb, off, none⟩ else ⟨bb, off + k, none⟩)) (m - k) (cap - k)) W := by
  have ht' : Tryd.prog.underlying 22 = some (.slice (Tryd.prog.elem 22)) := by simp [Program.elem, Tryd.underlying22]
  have he : Tryd.prog.elem 22 = 5 := by simp [Program.elem, Tryd.underlying22]
  rw [run_slice_l W 22 _ _ _ ht' .i64 _ (by omega) (by omega), he, size5]
  by_cases h0 : cap = k
  · simp [Result.andThen, sliced, h0]
  · by_cases h1 : k = 0
    · subst h1; simp [Result.andThen, sliced, Addr.add, h0]
    · simp [Result.andThen, sliced, Addr.add, h0, h1]
theorem tail_conv {bb off m cap k : Nat} (hk : k ≤ m) (hm : m ≤ cap) : ∃ A : Addr, (∀ W : World, (Instr.slice 22 (.slice (some ⟨bb, off, none⟩) m cap) (some (.int .i64 (k : Int))) none none).run Tryd.prog W = .ok (.slice (some A) (m - k) (cap - k)) W) ∧
    ∀ (W : World) (r p : Nat) (l : List UInt8), Rd W r (some ⟨bb, off, none⟩) m cap p l → (convert 22 9 (.slice (some A) (m - k) (cap - k))).run Tryd.prog W = .ok (.string ⟨(l.drop k).toArray⟩) W := by
  refine ⟨_, slice_tail bb off m cap k hk hm, fun W r p l h => ?_⟩
  have hl : (l.drop k).length = m - k := by rw [List.length_drop, h.hm]
  by_cases h0 : cap = k
  · rw [if_pos h0]
    refine conv_cells W bb off (m - k) (cap - k) (l.drop k) hl fun i hi => ?_
    rw [hl] at hi; omega
  · rw [if_neg h0]
    refine conv_cells W bb (off + k) (m - k) (cap - k) (l.drop k) hl fun i hi => ?_
    have hb := h.byte (i := k + i) (by rw [hl] at hi; rw [h.hm]; omega)
    rw [List.getElem_drop, show off + k + i = off + (k + i) by omega]
    exact hb
end
end Go.Proofs.YtafmhhhboihdfaaDoor
