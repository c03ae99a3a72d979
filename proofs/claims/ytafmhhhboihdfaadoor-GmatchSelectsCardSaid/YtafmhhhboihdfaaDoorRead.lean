/-
  A bracket's reader: read. Conditions: those that each theorem names. Printed by gen_read.py.
-/
import Derived.Test.YtafmhhhboihdfaaDoorRanged
namespace Go.Proofs.YtafmhhhboihdfaaDoor
open Go.RowKit
set_option linter.unusedVariables false
attribute [local go_sem ↓] Go.wp_at_zero Go.wp_at_succ
/-- the blocks of read: the reader, the answer's, the set's -/
structure ReW (w W : World) (r : Nat) (a : Option Addr) (m cap p : Nat) (l : List UInt8) (Z S : BitVec 256) : Prop where
  rd : Rd W r a m cap p l
  z : SetAt W w.heap.size Z
  v : SetAt W (w.heap.size + 1) S
  lt : r < w.heap.size
  g : w.grownBy W (some r)
section
variable {w W W' : World} {r : Nat} {a : Option Addr} {m cap p : Nat} {l : List UInt8} {Z S : BitVec 256}
theorem ReW.mk' (h : Rd W r a m cap p l) (hz : SetAt W w.heap.size Z) (hs : W.heap.size = w.heap.size + 1) (hlt : r < w.heap.size) (g : w.grownBy W (some r)) :
    ReW w (W.alloc (.cells #[.int .u64 0, .int .u64 0, .int .u64 0, .int .u64 0] 68)) r a m cap p l Z 0 := by
  have e := setat_alloc W
  rw [hs] at e
  exact ⟨h.alloc _, hz.kept (alloc_grown W _ none) (by simp), e, hlt, grown_trans g (alloc_grown _ _ _)⟩
theorem ReW.below (h : ReW w W r a m cap p l Z S) (g : Below W.heap.size W W') : ReW w W' r a m cap p l Z S :=
  ⟨h.rd.below g, h.z.below g h.z.lt, h.v.below g h.v.lt, h.lt, ⟨g.os.trans h.g.os, g.tape.trans h.g.tape, g.output.trans h.g.output, Nat.le_trans h.g.size g.size, fun k hk hne => (g.block k (Nat.lt_of_lt_of_le hk h.g.size)).trans (h.g.block k hk hne)⟩⟩
theorem ReW.drewN (h : ReW w W r a m cap p l Z S) (n : Nat) : ReW w (W.drewN n) r a m cap p l Z S := h.below ⟨rfl, rfl, rfl, Nat.le_refl _, fun _ _ => rfl⟩
theorem ReW.drew (h : ReW w W r a m cap p l Z S) : ReW w W.drew r a m cap p l Z S := h.below (Below.refl _ _).drew
theorem ReW.alloc (h : ReW w W r a m cap p l Z S) (o : Obj) : ReW w (W.alloc o) r a m cap p l Z S := h.below ((Below.refl _ _).alloc (Nat.le_refl _) _)
theorem ReW.went (h : ReW w W r a m cap p l Z S) {p' : Nat} (g : W.grownBy W' (some r)) (hr : RdAt W' r a m cap p' 2) : ReW w W' r a m cap p' l Z S := by
  have h1 := h.lt
  exact ⟨h.rd.grown g hr, h.z.kept g (by intro e; have := Option.some.inj e; omega), h.v.kept g (by intro e; have := Option.some.inj e; omega), h.lt, grown_trans h.g g⟩
theorem ReW.move (h : ReW w W r a m cap p l Z S) (p' : Nat) : ReW w (W.setCell ⟨r, 1, none⟩ (.int .i64 p')) r a m cap p' l Z S :=
  h.went (grown_setCell _ _ _ _) (h.rd.move p').rd
/-- a store into the set -/
theorem ReW.put (h : ReW w W r a m cap p l Z S) (T : BitVec 256) : ReW w (put4 W (w.heap.size + 1) T) r a m cap p l Z T := by
  have g := put4_grown W (w.heap.size + 1) T
  have h1 := h.lt
  exact ⟨h.rd.far g (by omega), h.z.kept g (by intro e; have := Option.some.inj e; omega), put4_at T h.v, h.lt, ⟨g.os.trans h.g.os, g.tape.trans h.g.tape, g.output.trans h.g.output, Nat.le_trans h.g.size g.size, fun k hk hne => (g.block k (Nat.lt_of_lt_of_le hk h.g.size) (fun e => by have := Option.some.inj e; omega)).trans (h.g.block k hk hne)⟩⟩
/-- behind the store of the answer -/
theorem ReW.fin (h : ReW w W r a m cap p l Z S) (T : BitVec 256) :
    RdAt (put4 W w.heap.size T) r a m cap p 2 ∧ w.grownBy (put4 W w.heap.size T) (some r) ∧ SetAt (put4 W w.heap.size T) w.heap.size T ∧ SetAt (put4 W w.heap.size T) (w.heap.size + 1) S := by
  have g := put4_grown W w.heap.size T
  have h1 := h.lt
  exact ⟨(h.rd.far g h1).rd, ⟨g.os.trans h.g.os, g.tape.trans h.g.tape, g.output.trans h.g.output, Nat.le_trans h.g.size g.size, fun k hk hne => (g.block k (Nat.lt_of_lt_of_le hk h.g.size) (fun e => by have := Option.some.inj e; omega)).trans (h.g.block k hk hne)⟩, put4_at T h.z, h.v.kept g (by intro e; have := Option.some.inj e; omega)⟩
theorem ReW.s5 (h : ReW w W r a m cap p l Z S) : W.cell? ⟨w.heap.size + 1, 0, none⟩ = some (.int .u64 (wd S 0)) ∧ W.cell? ⟨w.heap.size + 1, 1, none⟩ = some (.int .u64 (wd S 1)) ∧ W.cell? ⟨w.heap.size + 1, 2, none⟩ = some (.int .u64 (wd S 2)) ∧ W.cell? ⟨w.heap.size + 1, 3, none⟩ = some (.int .u64 (wd S 3)) ∧ W.cell? ⟨r, 0, none⟩ = some (.slice a m cap) := by
  obtain ⟨x0, x1, x2, x3, -⟩ := h.v.cells
  exact ⟨x0, x1, x2, x3, h.rd.cells.1⟩
theorem ReW.f5 (h : ReW w W r a m cap p l Z S) (T : BitVec 256) : (put4 W w.heap.size T).cell? ⟨w.heap.size + 1, 0, none⟩ = some (.int .u64 (wd S 0)) ∧ (put4 W w.heap.size T).cell? ⟨w.heap.size + 1, 1, none⟩ = some (.int .u64 (wd S 1)) ∧ (put4 W w.heap.size T).cell? ⟨w.heap.size + 1, 2, none⟩ = some (.int .u64 (wd S 2)) ∧ (put4 W w.heap.size T).cell? ⟨w.heap.size + 1, 3, none⟩ = some (.int .u64 (wd S 3)) ∧ (put4 W w.heap.size T).cell? ⟨r, 0, none⟩ = some (.slice a m cap) := by
  have g := put4_grown W w.heap.size T
  have h1 := h.lt
  obtain ⟨x0, x1, x2, x3, -⟩ := (h.v.kept g (by intro e; have := Option.some.inj e; omega)).cells
  exact ⟨x0, x1, x2, x3, (h.rd.far g h1).cells.1⟩
/-- behind a callee that left the reader's block in any state -/
structure ReX (w W : World) (r : Nat) (Z S : BitVec 256) : Prop where
  z : SetAt W w.heap.size Z
  v : SetAt W (w.heap.size + 1) S
  g : w.grownBy W (some r)
theorem ReW.gone (h : ReW w W r a m cap p l Z S) (g : W.grownBy W' (some r)) : ReX w W' r Z S := by
  have h1 := h.lt
  exact ⟨h.z.kept g (by intro e; have := Option.some.inj e; omega), h.v.kept g (by intro e; have := Option.some.inj e; omega), grown_trans h.g g⟩
theorem ReX.alloc (h : ReX w W r Z S) (o : Obj) : ReX w (W.alloc o) r Z S :=
  ⟨h.z.kept (alloc_grown W o none) (by simp), h.v.kept (alloc_grown W o none) (by simp), grown_trans h.g (alloc_grown W o _)⟩
theorem ReX.fin (h : ReX w W r Z S) (T : BitVec 256) : w.grownBy (put4 W w.heap.size T) (some r) ∧ SetAt (put4 W w.heap.size T) w.heap.size T := by
  have g := put4_grown W w.heap.size T
  exact ⟨⟨g.os.trans h.g.os, g.tape.trans h.g.tape, g.output.trans h.g.output, Nat.le_trans h.g.size g.size, fun k hk hne => (g.block k (Nat.lt_of_lt_of_le hk h.g.size) (fun e => by have := Option.some.inj e; omega)).trans (h.g.block k hk hne)⟩, put4_at T h.z⟩
end
/-- what read answers -/
def ReadPost (w w' : World) (r : Nat) (a : Option Addr) (m cap p : Nat) (o : Option (BitVec 256 × Nat)) (e : Ending) : Prop := match o with
  | some q => e = .returned (.tuple #[setV q.1, .nilIface]) ∧ RdAt w' r a m cap (p + q.2) 2 ∧ w.grownBy w' (some r)
  | none => (∃ T t v, e = .returned (.tuple #[setV T, .iface t v])) ∧ w.grownBy w' (some r)
/-- what is left of a bracket, from a place on -/
def LeftS (l : List UInt8) (p q : Nat) (first : Bool) (S : BitVec 256) : Prop := readS true 0 (l.drop p) = (readS first S (l.drop q)).map fun R => (R.1, q - p + R.2)
theorem left_start (l : List UInt8) (p : Nat) : LeftS l p p true 0 := by unfold LeftS; cases readS true 0 (l.drop p) <;> simp
theorem left_more {l : List UInt8} {p q : Nat} {first : Bool} {S T : BitVec 256} {c : UInt8} {u : List UInt8} {x : It} {n : Nat} (h : LeftS l p q first S) (hp : p ≤ q) (hd : l.drop q = c :: u) (hf : ¬ (first = false ∧ c = 93))
    (hx : itemS c u = some x) (hr : rangedS x (u.drop x.k) = some (T, n)) : LeftS l p (q + (x.k + 1) + n) false (S ||| T) := by
  unfold LeftS at *
  rw [h, hd, readS, if_neg hf, hx]
  simp only [hr]
  rw [show l.drop (q + (x.k + 1) + n) = (u.drop x.k).drop n by
    rw [List.drop_drop, show u = (l.drop q).drop 1 by rw [hd]; rfl, List.drop_drop, List.drop_drop]; congr 1; omega]
  cases readS false (S ||| T) ((u.drop x.k).drop n) with
  | none => rfl
  | some R => simp; omega
theorem left_none {l : List UInt8} {p q : Nat} {first : Bool} {S : BitVec 256} (h : LeftS l p q first S) (hn : readS first S (l.drop q) = none) : readS true 0 (l.drop p) = none := by
  unfold LeftS at h; rw [h, hn]; rfl
theorem left_stop {l : List UInt8} {p q : Nat} {S : BitVec 256} {u : List UInt8} (h : LeftS l p q false S) (hd : l.drop q = 93 :: u) : readS true 0 (l.drop p) = some (S, q - p + 1) := by
  unfold LeftS at h; rw [h, hd, readS, if_pos ⟨rfl, rfl⟩]; rfl
theorem read_item_none {first : Bool} {S : BitVec 256} {c : UInt8} {u : List UInt8} (hf : ¬ (first = false ∧ c = 93)) (hx : itemS c u = none) : readS first S (c :: u) = none := by
  rw [readS, if_neg hf, hx]
theorem read_ranged_none {first : Bool} {S : BitVec 256} {c : UInt8} {u : List UInt8} {x : It} (hf : ¬ (first = false ∧ c = 93)) (hx : itemS c u = some x) (hr : rangedS x (u.drop x.k) = none) : readS first S (c :: u) = none := by
  rw [readS, if_neg hf, hx]; simp only [hr]
def NotEnd (first : Bool) (c : UInt8) : Prop := ¬ (first = false ∧ c = 93)
/-- how far a reader has still to go -/
def toGo (r m : Nat) (W : World) : Nat := match W.cell? ⟨r, 1, none⟩ with
  | some (.int _ n) => m - n.toNat
  | _ => 0
theorem toGo_eq {W : World} {r : Nat} {a : Option Addr} {m cap p : Nat} {l : List UInt8} (h : Rd W r a m cap p l) : toGo r m W = m - p := by
  unfold toGo; rw [h.cells.2.1]; simp
theorem readPost_none {w w' : World} {r : Nat} {a : Option Addr} {m cap p : Nat} {o : Option (BitVec 256 × Nat)} {e : Ending} (h : o = none) (he : ∃ T t v, e = .returned (.tuple #[setV T, .iface t v])) (g : w.grownBy w' (some r)) : ReadPost w w' r a m cap p o e := by
  subst h; exact ⟨he, g⟩
theorem readPost_some {w w' : World} {r : Nat} {a : Option Addr} {m cap p : Nat} {o : Option (BitVec 256 × Nat)} {e : Ending} {T : BitVec 256} {n : Nat} (h : o = some (T, n)) (he : e = .returned (.tuple #[setV T, .nilIface])) (hr : RdAt w' r a m cap (p + n) 2) (g : w.grownBy w' (some r)) : ReadPost w w' r a m cap p o e := by
  subst h; exact ⟨he, hr, g⟩
theorem drop_some {l : List UInt8} {q : Nat} (h : q < l.length) : ∃ c u, l.drop q = c :: u := ⟨l[q], l.drop (q + 1), List.drop_eq_getElem_cons h⟩

set_option maxRecDepth 100000 in
set_option maxHeartbeats 4000000 in
theorem read_caret (w : World) (r : Nat) (a : Option Addr) (m cap p : Nat) (l : List UInt8) (hr : Rd w r a m cap p l) (hp : p ≤ m) (h1 : stI l (p : Int) 94 = true) (hpm : p < m) :
    Calls Tryd.prog 64 #[.pointer (some ⟨r, 0, none⟩)] w fun e w' => ReadPost w w' r a m cap p ((readS true 0 (l.drop (p + 1))).map fun R => (~~~ R.1, R.2 + 1)) e := by
  have hrl := hr.lt
  have hmb := hr.mb
  have hcs := hr.cs
  have hmc := hr.ms
  have i4 : IntKind.i64.wrap ((p : Int) + 1) = (p : Int) + 1 := by rw [IntKind.wrap_i64]; omega
  have HR := Lib.hid (hr.alloc (.cells #[.int .u64 0, .int .u64 0, .int .u64 0, .int .u64 0] 68))
  obtain ⟨Z, hZ⟩ : ∃ Z : BitVec 256, Z = 0 := ⟨_, rfl⟩
  have HZ := Lib.hid (show SetAt (w.alloc (.cells #[.int .u64 0, .int .u64 0, .int .u64 0, .int .u64 0] 68)) w.heap.size Z by rw [hZ]; exact setat_alloc w)
  have HS := Lib.hid (show (w.alloc (.cells #[.int .u64 0, .int .u64 0, .int .u64 0, .int .u64 0] 68)).heap.size = w.heap.size + 1 by simp)
  have HG := Lib.hid (alloc_grown w (.cells #[.int .u64 0, .int .u64 0, .int .u64 0, .int .u64 0] 68) (some r))
  clear hZ
  go_enter Tryd.func64, Tryd.ntmps64
  go_upto_region 1 with fail
  generalize (w.alloc (.cells #[.int .u64 0, .int .u64 0, .int .u64 0, .int .u64 0] 68)) = W0 at *
  obtain ⟨y0, y1, y2, yf⟩ := HR.out.cells
  go_wp2_with (go_at_call 77; refine (Rd.is (by first | exact HR.out | exact HR.out.drewN _) hp _ _ (by omega) (by omega) (by omega) (by omega)).mono ?_; rintro e w' ⟨rfl, q, rfl⟩)
  obtain ⟨k, hk⟩ : ∃ k : Nat, k = p + 1 := ⟨_, rfl⟩
  have hkm : k ≤ m := by omega
  have HST := Lib.hid (fun n => ReW.mk' (((HR.out.drewN n).move (p + 1))) (((HZ.out).kept (drewN_grown W0 n none) (by simp)).kept (grown_setCell (W0.drewN n) r 1 (.int .i64 ((p + 1 : Nat) : Int))) (by intro e; have := Option.some.inj e; omega)) (by simpa [World.setCell] using HS.out) hrl (grown_trans (grown_trans HG.out (drewN_grown W0 n _)) (grown_setCell _ _ _ _)))
  rw [← hk] at HST
  have HKI := Lib.hid (show ((k : Nat) : Int) = (p : Int) + 1 by rw [hk]; (try rfl))
  have HK := Lib.hid hk
  clear y0 y1 y2 yf
  rw [HS.out]
  go_loopw [6] (fun f wr => ∃ (first : Bool) (q : Nat) (S : BitVec 256), f = .bool first ∧ k ≤ q ∧ q ≤ m ∧ LeftS l k q first S ∧ ReW w wr r a m cap q l Z S) (fun _ W => toGo r m W)
  case atStart =>
    have hst := fun n => HST.out n
    simp only [HKI.out] at hst
    exact ⟨true, k, 0, rfl, Nat.le_refl _, hkm, left_start l k, hst _⟩
  case round =>
    obtain ⟨first, q, S, rfl, hq1, hq2, hleft, hw⟩ := hrel
    have HW := Lib.hid hw
    have HL := Lib.hid hleft
    clear hleft hw HST HR HZ HS HG
    obtain ⟨y0, y1, y2, yf⟩ := HW.out.rd.cells
    obtain ⟨z0, z1, z2, z3, zf0, zf1, zf2, zf3⟩ := HW.out.z.cells
    obtain ⟨v0, v1, v2, v3, vf0, vf1, vf2, vf3⟩ := HW.out.v.cells
    have n1 : ¬ r = w.heap.size + 1 := by omega
    have n2 : ¬ r = w.heap.size := by omega
    have n3 : ¬ w.heap.size = r := by omega
    have n4 : ¬ w.heap.size + 1 = r := by omega
    by_cases hqm : q < m
    · obtain ⟨c, u, hd⟩ := drop_some (l := l) (q := q) (by rw [hr.hm]; exact hqm)
      have hD : decide ((m : Int) ≤ (q : Int)) = false := by simp; omega
      have hI : ¬ (m : Int) ≤ (q : Int) := by omega
      by_cases hf : first = false ∧ c = 93
      · obtain ⟨rfl, rfl⟩ := hf
        have hb := st0_true (x := 93) hd rfl
        have HST := Lib.hid (left_stop HL.out hd)
        clear hd
        go_wp2_with fail
        go_quiet (fail)
        go_wp2_with (go_at_call 77; refine (Rd.is (by first | exact HW.out.rd | exact HW.out.rd.drewN _) (Nat.le_of_lt hqm) _ _ (by omega) (by omega) (by omega) (by omega)).mono ?_; rintro e w' ⟨rfl, q', rfl⟩)
        refine (snot_any S _).mono ?_; rintro e w5 ⟨rfl, b5⟩
        have H5 := Lib.hid (((HW.out.drewN _).move (q + 1)).below b5)
        clear b5 hb
        generalize hT : ~~~ S = T at *
        have HT := Lib.hid hT
        clear hT
        unfold setV wv
        clear z0 z1 z2 z3 zf0 zf1 zf2 zf3 v0 v1 v2 v3 vf0 vf1 vf2 vf3
        obtain ⟨z0, z1, z2, z3, zf0, zf1, zf2, zf3⟩ := H5.out.z.cells
        obtain ⟨v0, v1, v2, v3, vf0, vf1, vf2, vf3⟩ := H5.out.v.cells
        go_wp2_with fail
        have H6 := Lib.hid (H5.out.put T)
        have HF := Lib.hid (H6.out.fin T)
        change bodyPost _ _ _ _ _ (put4 (put4 w5 (w.heap.size + 1) T) w.heap.size T)
        generalize put4 (put4 w5 (w.heap.size + 1) T) w.heap.size T = W9 at *
        obtain ⟨g0, g1, g2, g3, -⟩ := HF.out.2.2.1.cells
        (try simp only [Exit.inBlock, Exit.then])
        refine bodyPost_ret (v := .tuple #[setV T, .nilIface]) (by simp [results, Tryd.results64, go_sem, g0, g1, g2, g3, setV, wv]) rfl ?_
        refine readPost_some (T := T) (n := q - k + 1 + 1) (by rw [← HK.out, HST.out, ← HT.out]; rfl) rfl ?_ HF.out.2.1
        rw [show p + (q - k + 1 + 1) = q + 1 by have := HK.out; omega]
        exact HF.out.1
      · cases first with
        | true =>
          have HNF := Lib.hid (show NotEnd true c from hf)
          clear hf
          go_wp2_with fail
          go_quiet (fail)
          go_wp2_with (go_at_call 77; refine (Rd.is (by first | exact HW.out.rd | exact HW.out.rd.drewN _) (Nat.le_of_lt hqm) _ _ (by omega) (by omega) (by omega) (by omega)).mono ?_; rintro e w' ⟨rfl, q', rfl⟩)
          cases hx : itemS c u with
          | none =>
            have HNN := Lib.hid (left_none HL.out (by rw [hd]; exact read_item_none HNF.out hx))
            refine (item_none _ r a m cap q l c u (by first | exact HW.out.rd | exact (HW.out.rd.drewN _)) hd hx).mono ?_; rintro e w5 ⟨⟨t', v', rfl⟩, g5⟩
            have H5 := Lib.hid ((HW.out.drewN _).gone g5)
            obtain ⟨Z0, hZ0⟩ : ∃ Z0 : BitVec 256, Z0 = 0 := ⟨_, rfl⟩
            rw [← hZ0]
            clear hZ0 hd hx g5
            unfold itV wv
            go_upto_region 11 with fail
            have H6 := Lib.hid (H5.out.alloc (.cells #[.bool true, .int .u8 (iv 0), .int .u64 (wd Z0 0), .int .u64 (wd Z0 1), .int .u64 (wd Z0 2), .int .u64 (wd Z0 3), .int .i64 q] 122))
            generalize w5.alloc (.cells #[.bool true, .int .u8 (iv 0), .int .u64 (wd Z0 0), .int .u64 (wd Z0 1), .int .u64 (wd Z0 2), .int .u64 (wd Z0 3), .int .i64 q] 122) = W6 at *
            clear z0 z1 z2 z3 zf0 zf1 zf2 zf3 v0 v1 v2 v3 vf0 vf1 vf2 vf3
            obtain ⟨z0, z1, z2, z3, zf0, zf1, zf2, zf3⟩ := H6.out.z.cells
            obtain ⟨v0, v1, v2, v3, vf0, vf1, vf2, vf3⟩ := H6.out.v.cells
            go_wp2_with fail
            have HF := Lib.hid (H6.out.fin S)
            change bodyPost _ _ _ _ _ (put4 (W6) w.heap.size S)
            generalize put4 (W6) w.heap.size S = W9 at *
            obtain ⟨g0, g1, g2, g3, -⟩ := HF.out.2.cells
            (try simp only [Exit.inBlock, Exit.then])
            refine bodyPost_ret (v := .tuple #[setV S, .iface t' v']) (by simp [results, Tryd.results64, go_sem, g0, g1, g2, g3, setV, wv]) rfl ?_
            exact readPost_none (by rw [← HK.out, HNN.out]; rfl) ⟨_, _, _, rfl⟩ HF.out.1
          | some x =>
            have hxk := item_k hx
            obtain ⟨hlt, hlen, hdn⟩ := drop_lt c u hd
            obtain ⟨q2, hq2e⟩ : ∃ q2 : Nat, q2 = q + (x.k + 1) := ⟨_, rfl⟩
            have hq2m : q2 ≤ m := by have := hr.hm; omega
            have hd2 : l.drop q2 = u.drop x.k := by rw [hq2e, ← hdn, List.drop_drop]; congr 1; omega
            refine (item_some _ r a m cap q l c u (by first | exact HW.out.rd | exact (HW.out.rd.drewN _)) hd x hx).mono ?_; rintro e w5 ⟨rfl, hr5, g5⟩
            rw [← hq2e] at hr5
            have H5 := Lib.hid ((HW.out.drewN _).went g5 hr5)
            clear hr5 g5
            unfold itV wv
            go_upto_region 11 with fail
            have H6 := Lib.hid (H5.out.alloc (.cells #[.bool x.one, .int .u8 (iv x.b), .int .u64 (wd x.s 0), .int .u64 (wd x.s 1), .int .u64 (wd x.s 2), .int .u64 (wd x.s 3), .int .i64 q] 122))
            have HI6 := Lib.hid (show ItAt (w5.alloc (.cells #[.bool x.one, .int .u8 (iv x.b), .int .u64 (wd x.s 0), .int .u64 (wd x.s 1), .int .u64 (wd x.s 2), .int .u64 (wd x.s 3), .int .i64 q] 122)) w5.heap.size x.one x.b x.s q from heap_alloc_new _ _)
            generalize w5.alloc (.cells #[.bool x.one, .int .u8 (iv x.b), .int .u64 (wd x.s 0), .int .u64 (wd x.s 1), .int .u64 (wd x.s 2), .int .u64 (wd x.s 3), .int .i64 q] 122) = W6 at *
            generalize w5.heap.size = Y at *
            clear z0 z1 z2 z3 zf0 zf1 zf2 zf3 v0 v1 v2 v3 vf0 vf1 vf2 vf3
            obtain ⟨z0, z1, z2, z3, zf0, zf1, zf2, zf3⟩ := H6.out.z.cells
            obtain ⟨v0, v1, v2, v3, vf0, vf1, vf2, vf3⟩ := H6.out.v.cells
            obtain ⟨⟨i0, i1, i2, i3, i4', i5, i6⟩, -⟩ := HI6.out.cells
            go_wp2_with fail
            cases hrg : rangedS x (u.drop x.k) with
            | none =>
              have HNN := Lib.hid (left_none HL.out (by rw [hd]; exact read_ranged_none HNF.out hx hrg))
              refine (ranged_none W6 r a m cap q2 q l (u.drop x.k) x.one x.b x.s H6.out.rd hq2m hd2 x.k hrg).mono ?_; rintro e w7 ⟨⟨T, t', v', rfl⟩, g7⟩
              have H7 := Lib.hid (H6.out.gone g7)
              clear hd hx hrg g7 hd2 i0 i1 i2 i3 i4' i5 i6
              unfold setV wv
              go_upto_region 14 with fail
              have H8 := Lib.hid (H7.out.alloc (.cells #[.int .u64 (wd T 0), .int .u64 (wd T 1), .int .u64 (wd T 2), .int .u64 (wd T 3)] 68))
              generalize w7.alloc (.cells #[.int .u64 (wd T 0), .int .u64 (wd T 1), .int .u64 (wd T 2), .int .u64 (wd T 3)] 68) = W8 at *
              clear z0 z1 z2 z3 zf0 zf1 zf2 zf3 v0 v1 v2 v3 vf0 vf1 vf2 vf3
              obtain ⟨z0, z1, z2, z3, zf0, zf1, zf2, zf3⟩ := H8.out.z.cells
              obtain ⟨v0, v1, v2, v3, vf0, vf1, vf2, vf3⟩ := H8.out.v.cells
              go_wp2_with fail
              have HF := Lib.hid (H8.out.fin S)
              change bodyPost _ _ _ _ _ (put4 (W8) w.heap.size S)
              generalize put4 (W8) w.heap.size S = W9 at *
              obtain ⟨g0, g1, g2, g3, -⟩ := HF.out.2.cells
              (try simp only [Exit.inBlock, Exit.then])
              refine bodyPost_ret (v := .tuple #[setV S, .iface t' v']) (by simp [results, Tryd.results64, go_sem, g0, g1, g2, g3, setV, wv]) rfl ?_
              exact readPost_none (by rw [← HK.out, HNN.out]; rfl) ⟨_, _, _, rfl⟩ HF.out.1
            | some T =>
              obtain ⟨T, n⟩ := T
              have hn := ranged_k hrg
              have HLM := Lib.hid (left_more HL.out hq1 hd HNF.out hx hrg)
              refine (ranged_some W6 r a m cap q2 q l (u.drop x.k) x.one x.b x.s H6.out.rd hq2m hd2 x.k (T, n) hrg).mono ?_; rintro e w7 ⟨rfl, hr7, g7⟩
              obtain ⟨q3, hq3e⟩ : ∃ q3 : Nat, q3 = q2 + n := ⟨_, rfl⟩
              rw [show q2 + (T, n).2 = q3 from hq3e.symm] at hr7
              have H7 := Lib.hid (H6.out.went g7 hr7)
              have hq3m : q3 ≤ m ∧ q < q3 := by
                have h1 := congrArg List.length hd2
                have h2 := hr.hm
                simp at hn h1
                omega
              rw [← hq2e, ← hq3e] at HLM
              clear hd hx hrg hr7 g7 hd2 i0 i1 i2 i3 i4' i5 i6 hn hlt hlen hdn hxk hq2e hq3e
              unfold setV wv
              go_upto_region 14 with fail
              have H8 := Lib.hid (H7.out.alloc (.cells #[.int .u64 (wd T 0), .int .u64 (wd T 1), .int .u64 (wd T 2), .int .u64 (wd T 3)] 68))
              have HT8 := Lib.hid (show SetAt (w7.alloc (.cells #[.int .u64 (wd T 0), .int .u64 (wd T 1), .int .u64 (wd T 2), .int .u64 (wd T 3)] 68)) w7.heap.size T from heap_alloc_new _ _)
              generalize w7.alloc (.cells #[.int .u64 (wd T 0), .int .u64 (wd T 1), .int .u64 (wd T 2), .int .u64 (wd T 3)] 68) = W8 at *
              generalize w7.heap.size = Y9 at *
              clear z0 z1 z2 z3 zf0 zf1 zf2 zf3 v0 v1 v2 v3 vf0 vf1 vf2 vf3
              obtain ⟨z0, z1, z2, z3, zf0, zf1, zf2, zf3⟩ := H8.out.z.cells
              obtain ⟨v0, v1, v2, v3, vf0, vf1, vf2, vf3⟩ := H8.out.v.cells
              obtain ⟨t0, t1, t2, t3, -⟩ := HT8.out.cells
              go_wp2_with fail
              refine (union_any _ 2 2 [S, T] _ rfl (sets_block _ _ [S, T] _ 68 (block_at _ _ _ (by simp)) rfl) (by omega) (by omega)).mono ?_; rintro e w9 ⟨rfl, b9⟩
              have H9 := Lib.hid ((H8.out.alloc _).below b9)
              rw [show unionS [S, T] = S ||| T by simp [unionS]]
              generalize S ||| T = U at *
              unfold setV wv
              clear b9 t0 t1 t2 t3
              clear z0 z1 z2 z3 zf0 zf1 zf2 zf3 v0 v1 v2 v3 vf0 vf1 vf2 vf3
              obtain ⟨v0, v1, v2, v3, vf0, vf1, vf2, vf3⟩ := H9.out.v.cells
              go_wp2_with fail
              refine ⟨⟨false, q3, U, rfl, by omega, hq3m.1, HLM.out, H9.out.put U⟩, ?_⟩
              have e := toGo_eq (H9.out.put U).rd
              unfold put4 at e
              rw [e, toGo_eq HW.out.rd]
              omega
        | false =>
          have hb := st0_false (x := 93) hd (fun e => hf ⟨rfl, iv_inj e⟩)
          have HNF := Lib.hid (show NotEnd false c from hf)
          clear hf
          go_wp2_with fail
          go_quiet (fail)
          go_wp2_with (go_at_call 77; refine (Rd.is (by first | exact HW.out.rd | exact HW.out.rd.drewN _) (Nat.le_of_lt hqm) _ _ (by omega) (by omega) (by omega) (by omega)).mono ?_; rintro e w' ⟨rfl, q', rfl⟩)
          cases hx : itemS c u with
          | none =>
            have HNN := Lib.hid (left_none HL.out (by rw [hd]; exact read_item_none HNF.out hx))
            refine (item_none _ r a m cap q l c u (by first | exact HW.out.rd | exact (HW.out.rd.drewN _)) hd hx).mono ?_; rintro e w5 ⟨⟨t', v', rfl⟩, g5⟩
            have H5 := Lib.hid ((HW.out.drewN _).gone g5)
            obtain ⟨Z0, hZ0⟩ : ∃ Z0 : BitVec 256, Z0 = 0 := ⟨_, rfl⟩
            rw [← hZ0]
            clear hZ0 hd hx g5
            unfold itV wv
            go_upto_region 11 with fail
            have H6 := Lib.hid (H5.out.alloc (.cells #[.bool true, .int .u8 (iv 0), .int .u64 (wd Z0 0), .int .u64 (wd Z0 1), .int .u64 (wd Z0 2), .int .u64 (wd Z0 3), .int .i64 q] 122))
            generalize w5.alloc (.cells #[.bool true, .int .u8 (iv 0), .int .u64 (wd Z0 0), .int .u64 (wd Z0 1), .int .u64 (wd Z0 2), .int .u64 (wd Z0 3), .int .i64 q] 122) = W6 at *
            clear z0 z1 z2 z3 zf0 zf1 zf2 zf3 v0 v1 v2 v3 vf0 vf1 vf2 vf3
            obtain ⟨z0, z1, z2, z3, zf0, zf1, zf2, zf3⟩ := H6.out.z.cells
            obtain ⟨v0, v1, v2, v3, vf0, vf1, vf2, vf3⟩ := H6.out.v.cells
            go_wp2_with fail
            have HF := Lib.hid (H6.out.fin S)
            change bodyPost _ _ _ _ _ (put4 (W6) w.heap.size S)
            generalize put4 (W6) w.heap.size S = W9 at *
            obtain ⟨g0, g1, g2, g3, -⟩ := HF.out.2.cells
            (try simp only [Exit.inBlock, Exit.then])
            refine bodyPost_ret (v := .tuple #[setV S, .iface t' v']) (by simp [results, Tryd.results64, go_sem, g0, g1, g2, g3, setV, wv]) rfl ?_
            exact readPost_none (by rw [← HK.out, HNN.out]; rfl) ⟨_, _, _, rfl⟩ HF.out.1
          | some x =>
            have hxk := item_k hx
            obtain ⟨hlt, hlen, hdn⟩ := drop_lt c u hd
            obtain ⟨q2, hq2e⟩ : ∃ q2 : Nat, q2 = q + (x.k + 1) := ⟨_, rfl⟩
            have hq2m : q2 ≤ m := by have := hr.hm; omega
            have hd2 : l.drop q2 = u.drop x.k := by rw [hq2e, ← hdn, List.drop_drop]; congr 1; omega
            refine (item_some _ r a m cap q l c u (by first | exact HW.out.rd | exact (HW.out.rd.drewN _)) hd x hx).mono ?_; rintro e w5 ⟨rfl, hr5, g5⟩
            rw [← hq2e] at hr5
            have H5 := Lib.hid ((HW.out.drewN _).went g5 hr5)
            clear hr5 g5
            unfold itV wv
            go_upto_region 11 with fail
            have H6 := Lib.hid (H5.out.alloc (.cells #[.bool x.one, .int .u8 (iv x.b), .int .u64 (wd x.s 0), .int .u64 (wd x.s 1), .int .u64 (wd x.s 2), .int .u64 (wd x.s 3), .int .i64 q] 122))
            have HI6 := Lib.hid (show ItAt (w5.alloc (.cells #[.bool x.one, .int .u8 (iv x.b), .int .u64 (wd x.s 0), .int .u64 (wd x.s 1), .int .u64 (wd x.s 2), .int .u64 (wd x.s 3), .int .i64 q] 122)) w5.heap.size x.one x.b x.s q from heap_alloc_new _ _)
            generalize w5.alloc (.cells #[.bool x.one, .int .u8 (iv x.b), .int .u64 (wd x.s 0), .int .u64 (wd x.s 1), .int .u64 (wd x.s 2), .int .u64 (wd x.s 3), .int .i64 q] 122) = W6 at *
            generalize w5.heap.size = Y at *
            clear z0 z1 z2 z3 zf0 zf1 zf2 zf3 v0 v1 v2 v3 vf0 vf1 vf2 vf3
            obtain ⟨z0, z1, z2, z3, zf0, zf1, zf2, zf3⟩ := H6.out.z.cells
            obtain ⟨v0, v1, v2, v3, vf0, vf1, vf2, vf3⟩ := H6.out.v.cells
            obtain ⟨⟨i0, i1, i2, i3, i4', i5, i6⟩, -⟩ := HI6.out.cells
            go_wp2_with fail
            cases hrg : rangedS x (u.drop x.k) with
            | none =>
              have HNN := Lib.hid (left_none HL.out (by rw [hd]; exact read_ranged_none HNF.out hx hrg))
              refine (ranged_none W6 r a m cap q2 q l (u.drop x.k) x.one x.b x.s H6.out.rd hq2m hd2 x.k hrg).mono ?_; rintro e w7 ⟨⟨T, t', v', rfl⟩, g7⟩
              have H7 := Lib.hid (H6.out.gone g7)
              clear hd hx hrg g7 hd2 i0 i1 i2 i3 i4' i5 i6
              unfold setV wv
              go_upto_region 14 with fail
              have H8 := Lib.hid (H7.out.alloc (.cells #[.int .u64 (wd T 0), .int .u64 (wd T 1), .int .u64 (wd T 2), .int .u64 (wd T 3)] 68))
              generalize w7.alloc (.cells #[.int .u64 (wd T 0), .int .u64 (wd T 1), .int .u64 (wd T 2), .int .u64 (wd T 3)] 68) = W8 at *
              clear z0 z1 z2 z3 zf0 zf1 zf2 zf3 v0 v1 v2 v3 vf0 vf1 vf2 vf3
              obtain ⟨z0, z1, z2, z3, zf0, zf1, zf2, zf3⟩ := H8.out.z.cells
              obtain ⟨v0, v1, v2, v3, vf0, vf1, vf2, vf3⟩ := H8.out.v.cells
              go_wp2_with fail
              have HF := Lib.hid (H8.out.fin S)
              change bodyPost _ _ _ _ _ (put4 (W8) w.heap.size S)
              generalize put4 (W8) w.heap.size S = W9 at *
              obtain ⟨g0, g1, g2, g3, -⟩ := HF.out.2.cells
              (try simp only [Exit.inBlock, Exit.then])
              refine bodyPost_ret (v := .tuple #[setV S, .iface t' v']) (by simp [results, Tryd.results64, go_sem, g0, g1, g2, g3, setV, wv]) rfl ?_
              exact readPost_none (by rw [← HK.out, HNN.out]; rfl) ⟨_, _, _, rfl⟩ HF.out.1
            | some T =>
              obtain ⟨T, n⟩ := T
              have hn := ranged_k hrg
              have HLM := Lib.hid (left_more HL.out hq1 hd HNF.out hx hrg)
              refine (ranged_some W6 r a m cap q2 q l (u.drop x.k) x.one x.b x.s H6.out.rd hq2m hd2 x.k (T, n) hrg).mono ?_; rintro e w7 ⟨rfl, hr7, g7⟩
              obtain ⟨q3, hq3e⟩ : ∃ q3 : Nat, q3 = q2 + n := ⟨_, rfl⟩
              rw [show q2 + (T, n).2 = q3 from hq3e.symm] at hr7
              have H7 := Lib.hid (H6.out.went g7 hr7)
              have hq3m : q3 ≤ m ∧ q < q3 := by
                have h1 := congrArg List.length hd2
                have h2 := hr.hm
                simp at hn h1
                omega
              rw [← hq2e, ← hq3e] at HLM
              clear hd hx hrg hr7 g7 hd2 i0 i1 i2 i3 i4' i5 i6 hn hlt hlen hdn hxk hq2e hq3e
              unfold setV wv
              go_upto_region 14 with fail
              have H8 := Lib.hid (H7.out.alloc (.cells #[.int .u64 (wd T 0), .int .u64 (wd T 1), .int .u64 (wd T 2), .int .u64 (wd T 3)] 68))
              have HT8 := Lib.hid (show SetAt (w7.alloc (.cells #[.int .u64 (wd T 0), .int .u64 (wd T 1), .int .u64 (wd T 2), .int .u64 (wd T 3)] 68)) w7.heap.size T from heap_alloc_new _ _)
              generalize w7.alloc (.cells #[.int .u64 (wd T 0), .int .u64 (wd T 1), .int .u64 (wd T 2), .int .u64 (wd T 3)] 68) = W8 at *
              generalize w7.heap.size = Y9 at *
              clear z0 z1 z2 z3 zf0 zf1 zf2 zf3 v0 v1 v2 v3 vf0 vf1 vf2 vf3
              obtain ⟨z0, z1, z2, z3, zf0, zf1, zf2, zf3⟩ := H8.out.z.cells
              obtain ⟨v0, v1, v2, v3, vf0, vf1, vf2, vf3⟩ := H8.out.v.cells
              obtain ⟨t0, t1, t2, t3, -⟩ := HT8.out.cells
              go_wp2_with fail
              refine (union_any _ 2 2 [S, T] _ rfl (sets_block _ _ [S, T] _ 68 (block_at _ _ _ (by simp)) rfl) (by omega) (by omega)).mono ?_; rintro e w9 ⟨rfl, b9⟩
              have H9 := Lib.hid ((H8.out.alloc _).below b9)
              rw [show unionS [S, T] = S ||| T by simp [unionS]]
              generalize S ||| T = U at *
              unfold setV wv
              clear b9 t0 t1 t2 t3
              clear z0 z1 z2 z3 zf0 zf1 zf2 zf3 v0 v1 v2 v3 vf0 vf1 vf2 vf3
              obtain ⟨v0, v1, v2, v3, vf0, vf1, vf2, vf3⟩ := H9.out.v.cells
              go_wp2_with fail
              refine ⟨⟨false, q3, U, rfl, by omega, hq3m.1, HLM.out, H9.out.put U⟩, ?_⟩
              have e := toGo_eq (H9.out.put U).rd
              unfold put4 at e
              rw [e, toGo_eq HW.out.rd]
              omega
    · have hqe : q = m := by omega
      have hD : decide ((m : Int) ≤ (q : Int)) = true := by simp; omega
      have hI : (m : Int) ≤ (q : Int) := by omega
      have HNN := Lib.hid (left_none HL.out (by rw [List.drop_eq_nil_of_le (by rw [hr.hm]; omega), readS]))
      go_wp2_with fail
      go_quiet (fail)
      go_wp2_with fail
      go_region_held3 (fun W => W.cell? ⟨w.heap.size + 1, 0, none⟩ = some (.int .u64 (wd S 0)) ∧ W.cell? ⟨w.heap.size + 1, 1, none⟩ = some (.int .u64 (wd S 1)) ∧ W.cell? ⟨w.heap.size + 1, 2, none⟩ = some (.int .u64 (wd S 2)) ∧ W.cell? ⟨w.heap.size + 1, 3, none⟩ = some (.int .u64 (wd S 3)) ∧ W.cell? ⟨r, 0, none⟩ = some (.slice a m cap))
        (first | with_reducible exact H9.out | with_reducible exact H8.out.s5 | with_reducible exact (HW.out.drewN _).s5 | with_reducible exact (HW.out.drewN _).drew.s5)
        ((go_at_call 63; refine (((HW.out.drewN _).drew.rd).fail _ (by omega) (by omega) _).mono ?_; rintro e w8 ⟨⟨t', v', rfl⟩, b8⟩; have H8 := Lib.hid ((HW.out.drewN _).drew.below b8); clear b8; obtain ⟨e0, e1, e2, e3, ef0, ef1, ef2, ef3⟩ := H8.out.z.cells; have H9 := Lib.hid (H8.out.f5 S); unfold put4 at H9))
      have HF := Lib.hid (H8.out.fin S)
      rename_i hHeld
      clear hHeld e0 e1 e2 e3
      change Exit.then _ _ _ _ (put4 w8 w.heap.size S)
      generalize put4 w8 w.heap.size S = W9 at *
      obtain ⟨g0, g1, g2, g3, -⟩ := HF.out.2.2.1.cells
      go_wp2_with fail
      (try simp only [Exit.inBlock, Exit.then])
      refine bodyPost_ret (v := .tuple #[setV S, .iface t' v']) (by simp [results, Tryd.results64, go_sem, g0, g1, g2, g3, setV, wv]) rfl ?_
      exact readPost_none (by rw [← HK.out, HNN.out]; rfl) ⟨_, _, _, rfl⟩ HF.out.2.1

set_option maxRecDepth 100000 in
set_option maxHeartbeats 4000000 in
theorem read_bang (w : World) (r : Nat) (a : Option Addr) (m cap p : Nat) (l : List UInt8) (hr : Rd w r a m cap p l) (hp : p ≤ m) (h1 : stI l (p : Int) 94 = false) (h2 : stI l (p : Int) 33 = true) (hpm : p < m) :
    Calls Tryd.prog 64 #[.pointer (some ⟨r, 0, none⟩)] w fun e w' => ReadPost w w' r a m cap p ((readS true 0 (l.drop (p + 1))).map fun R => (~~~ R.1, R.2 + 1)) e := by
  have hrl := hr.lt
  have hmb := hr.mb
  have hcs := hr.cs
  have hmc := hr.ms
  have i4 : IntKind.i64.wrap ((p : Int) + 1) = (p : Int) + 1 := by rw [IntKind.wrap_i64]; omega
  have HR := Lib.hid (hr.alloc (.cells #[.int .u64 0, .int .u64 0, .int .u64 0, .int .u64 0] 68))
  obtain ⟨Z, hZ⟩ : ∃ Z : BitVec 256, Z = 0 := ⟨_, rfl⟩
  have HZ := Lib.hid (show SetAt (w.alloc (.cells #[.int .u64 0, .int .u64 0, .int .u64 0, .int .u64 0] 68)) w.heap.size Z by rw [hZ]; exact setat_alloc w)
  have HS := Lib.hid (show (w.alloc (.cells #[.int .u64 0, .int .u64 0, .int .u64 0, .int .u64 0] 68)).heap.size = w.heap.size + 1 by simp)
  have HG := Lib.hid (alloc_grown w (.cells #[.int .u64 0, .int .u64 0, .int .u64 0, .int .u64 0] 68) (some r))
  clear hZ
  go_enter Tryd.func64, Tryd.ntmps64
  go_upto_region 1 with fail
  generalize (w.alloc (.cells #[.int .u64 0, .int .u64 0, .int .u64 0, .int .u64 0] 68)) = W0 at *
  obtain ⟨y0, y1, y2, yf⟩ := HR.out.cells
  go_wp2_with (go_at_call 77; refine (Rd.is (by first | exact HR.out | exact HR.out.drewN _) hp _ _ (by omega) (by omega) (by omega) (by omega)).mono ?_; rintro e w' ⟨rfl, q, rfl⟩)
  obtain ⟨k, hk⟩ : ∃ k : Nat, k = p + 1 := ⟨_, rfl⟩
  have hkm : k ≤ m := by omega
  have HST := Lib.hid (fun n => ReW.mk' (((HR.out.drewN n).move (p + 1))) (((HZ.out).kept (drewN_grown W0 n none) (by simp)).kept (grown_setCell (W0.drewN n) r 1 (.int .i64 ((p + 1 : Nat) : Int))) (by intro e; have := Option.some.inj e; omega)) (by simpa [World.setCell] using HS.out) hrl (grown_trans (grown_trans HG.out (drewN_grown W0 n _)) (grown_setCell _ _ _ _)))
  rw [← hk] at HST
  have HKI := Lib.hid (show ((k : Nat) : Int) = (p : Int) + 1 by rw [hk]; (try rfl))
  have HK := Lib.hid hk
  clear y0 y1 y2 yf
  rw [HS.out]
  go_loopw [6] (fun f wr => ∃ (first : Bool) (q : Nat) (S : BitVec 256), f = .bool first ∧ k ≤ q ∧ q ≤ m ∧ LeftS l k q first S ∧ ReW w wr r a m cap q l Z S) (fun _ W => toGo r m W)
  case atStart =>
    have hst := fun n => HST.out n
    simp only [HKI.out] at hst
    exact ⟨true, k, 0, rfl, Nat.le_refl _, hkm, left_start l k, hst _⟩
  case round =>
    obtain ⟨first, q, S, rfl, hq1, hq2, hleft, hw⟩ := hrel
    have HW := Lib.hid hw
    have HL := Lib.hid hleft
    clear hleft hw HST HR HZ HS HG
    obtain ⟨y0, y1, y2, yf⟩ := HW.out.rd.cells
    obtain ⟨z0, z1, z2, z3, zf0, zf1, zf2, zf3⟩ := HW.out.z.cells
    obtain ⟨v0, v1, v2, v3, vf0, vf1, vf2, vf3⟩ := HW.out.v.cells
    have n1 : ¬ r = w.heap.size + 1 := by omega
    have n2 : ¬ r = w.heap.size := by omega
    have n3 : ¬ w.heap.size = r := by omega
    have n4 : ¬ w.heap.size + 1 = r := by omega
    by_cases hqm : q < m
    · obtain ⟨c, u, hd⟩ := drop_some (l := l) (q := q) (by rw [hr.hm]; exact hqm)
      have hD : decide ((m : Int) ≤ (q : Int)) = false := by simp; omega
      have hI : ¬ (m : Int) ≤ (q : Int) := by omega
      by_cases hf : first = false ∧ c = 93
      · obtain ⟨rfl, rfl⟩ := hf
        have hb := st0_true (x := 93) hd rfl
        have HST := Lib.hid (left_stop HL.out hd)
        clear hd
        go_wp2_with fail
        go_quiet (fail)
        go_wp2_with (go_at_call 77; refine (Rd.is (by first | exact HW.out.rd | exact HW.out.rd.drewN _) (Nat.le_of_lt hqm) _ _ (by omega) (by omega) (by omega) (by omega)).mono ?_; rintro e w' ⟨rfl, q', rfl⟩)
        refine (snot_any S _).mono ?_; rintro e w5 ⟨rfl, b5⟩
        have H5 := Lib.hid (((HW.out.drewN _).move (q + 1)).below b5)
        clear b5 hb
        generalize hT : ~~~ S = T at *
        have HT := Lib.hid hT
        clear hT
        unfold setV wv
        clear z0 z1 z2 z3 zf0 zf1 zf2 zf3 v0 v1 v2 v3 vf0 vf1 vf2 vf3
        obtain ⟨z0, z1, z2, z3, zf0, zf1, zf2, zf3⟩ := H5.out.z.cells
        obtain ⟨v0, v1, v2, v3, vf0, vf1, vf2, vf3⟩ := H5.out.v.cells
        go_wp2_with fail
        have H6 := Lib.hid (H5.out.put T)
        have HF := Lib.hid (H6.out.fin T)
        change bodyPost _ _ _ _ _ (put4 (put4 w5 (w.heap.size + 1) T) w.heap.size T)
        generalize put4 (put4 w5 (w.heap.size + 1) T) w.heap.size T = W9 at *
        obtain ⟨g0, g1, g2, g3, -⟩ := HF.out.2.2.1.cells
        (try simp only [Exit.inBlock, Exit.then])
        refine bodyPost_ret (v := .tuple #[setV T, .nilIface]) (by simp [results, Tryd.results64, go_sem, g0, g1, g2, g3, setV, wv]) rfl ?_
        refine readPost_some (T := T) (n := q - k + 1 + 1) (by rw [← HK.out, HST.out, ← HT.out]; rfl) rfl ?_ HF.out.2.1
        rw [show p + (q - k + 1 + 1) = q + 1 by have := HK.out; omega]
        exact HF.out.1
      · cases first with
        | true =>
          have HNF := Lib.hid (show NotEnd true c from hf)
          clear hf
          go_wp2_with fail
          go_quiet (fail)
          go_wp2_with (go_at_call 77; refine (Rd.is (by first | exact HW.out.rd | exact HW.out.rd.drewN _) (Nat.le_of_lt hqm) _ _ (by omega) (by omega) (by omega) (by omega)).mono ?_; rintro e w' ⟨rfl, q', rfl⟩)
          cases hx : itemS c u with
          | none =>
            have HNN := Lib.hid (left_none HL.out (by rw [hd]; exact read_item_none HNF.out hx))
            refine (item_none _ r a m cap q l c u (by first | exact HW.out.rd | exact (HW.out.rd.drewN _)) hd hx).mono ?_; rintro e w5 ⟨⟨t', v', rfl⟩, g5⟩
            have H5 := Lib.hid ((HW.out.drewN _).gone g5)
            obtain ⟨Z0, hZ0⟩ : ∃ Z0 : BitVec 256, Z0 = 0 := ⟨_, rfl⟩
            rw [← hZ0]
            clear hZ0 hd hx g5
            unfold itV wv
            go_upto_region 11 with fail
            have H6 := Lib.hid (H5.out.alloc (.cells #[.bool true, .int .u8 (iv 0), .int .u64 (wd Z0 0), .int .u64 (wd Z0 1), .int .u64 (wd Z0 2), .int .u64 (wd Z0 3), .int .i64 q] 122))
            generalize w5.alloc (.cells #[.bool true, .int .u8 (iv 0), .int .u64 (wd Z0 0), .int .u64 (wd Z0 1), .int .u64 (wd Z0 2), .int .u64 (wd Z0 3), .int .i64 q] 122) = W6 at *
            clear z0 z1 z2 z3 zf0 zf1 zf2 zf3 v0 v1 v2 v3 vf0 vf1 vf2 vf3
            obtain ⟨z0, z1, z2, z3, zf0, zf1, zf2, zf3⟩ := H6.out.z.cells
            obtain ⟨v0, v1, v2, v3, vf0, vf1, vf2, vf3⟩ := H6.out.v.cells
            go_wp2_with fail
            have HF := Lib.hid (H6.out.fin S)
            change bodyPost _ _ _ _ _ (put4 (W6) w.heap.size S)
            generalize put4 (W6) w.heap.size S = W9 at *
            obtain ⟨g0, g1, g2, g3, -⟩ := HF.out.2.cells
            (try simp only [Exit.inBlock, Exit.then])
            refine bodyPost_ret (v := .tuple #[setV S, .iface t' v']) (by simp [results, Tryd.results64, go_sem, g0, g1, g2, g3, setV, wv]) rfl ?_
            exact readPost_none (by rw [← HK.out, HNN.out]; rfl) ⟨_, _, _, rfl⟩ HF.out.1
          | some x =>
            have hxk := item_k hx
            obtain ⟨hlt, hlen, hdn⟩ := drop_lt c u hd
            obtain ⟨q2, hq2e⟩ : ∃ q2 : Nat, q2 = q + (x.k + 1) := ⟨_, rfl⟩
            have hq2m : q2 ≤ m := by have := hr.hm; omega
            have hd2 : l.drop q2 = u.drop x.k := by rw [hq2e, ← hdn, List.drop_drop]; congr 1; omega
            refine (item_some _ r a m cap q l c u (by first | exact HW.out.rd | exact (HW.out.rd.drewN _)) hd x hx).mono ?_; rintro e w5 ⟨rfl, hr5, g5⟩
            rw [← hq2e] at hr5
            have H5 := Lib.hid ((HW.out.drewN _).went g5 hr5)
            clear hr5 g5
            unfold itV wv
            go_upto_region 11 with fail
            have H6 := Lib.hid (H5.out.alloc (.cells #[.bool x.one, .int .u8 (iv x.b), .int .u64 (wd x.s 0), .int .u64 (wd x.s 1), .int .u64 (wd x.s 2), .int .u64 (wd x.s 3), .int .i64 q] 122))
            have HI6 := Lib.hid (show ItAt (w5.alloc (.cells #[.bool x.one, .int .u8 (iv x.b), .int .u64 (wd x.s 0), .int .u64 (wd x.s 1), .int .u64 (wd x.s 2), .int .u64 (wd x.s 3), .int .i64 q] 122)) w5.heap.size x.one x.b x.s q from heap_alloc_new _ _)
            generalize w5.alloc (.cells #[.bool x.one, .int .u8 (iv x.b), .int .u64 (wd x.s 0), .int .u64 (wd x.s 1), .int .u64 (wd x.s 2), .int .u64 (wd x.s 3), .int .i64 q] 122) = W6 at *
            generalize w5.heap.size = Y at *
            clear z0 z1 z2 z3 zf0 zf1 zf2 zf3 v0 v1 v2 v3 vf0 vf1 vf2 vf3
            obtain ⟨z0, z1, z2, z3, zf0, zf1, zf2, zf3⟩ := H6.out.z.cells
            obtain ⟨v0, v1, v2, v3, vf0, vf1, vf2, vf3⟩ := H6.out.v.cells
            obtain ⟨⟨i0, i1, i2, i3, i4', i5, i6⟩, -⟩ := HI6.out.cells
            go_wp2_with fail
            cases hrg : rangedS x (u.drop x.k) with
            | none =>
              have HNN := Lib.hid (left_none HL.out (by rw [hd]; exact read_ranged_none HNF.out hx hrg))
              refine (ranged_none W6 r a m cap q2 q l (u.drop x.k) x.one x.b x.s H6.out.rd hq2m hd2 x.k hrg).mono ?_; rintro e w7 ⟨⟨T, t', v', rfl⟩, g7⟩
              have H7 := Lib.hid (H6.out.gone g7)
              clear hd hx hrg g7 hd2 i0 i1 i2 i3 i4' i5 i6
              unfold setV wv
              go_upto_region 14 with fail
              have H8 := Lib.hid (H7.out.alloc (.cells #[.int .u64 (wd T 0), .int .u64 (wd T 1), .int .u64 (wd T 2), .int .u64 (wd T 3)] 68))
              generalize w7.alloc (.cells #[.int .u64 (wd T 0), .int .u64 (wd T 1), .int .u64 (wd T 2), .int .u64 (wd T 3)] 68) = W8 at *
              clear z0 z1 z2 z3 zf0 zf1 zf2 zf3 v0 v1 v2 v3 vf0 vf1 vf2 vf3
              obtain ⟨z0, z1, z2, z3, zf0, zf1, zf2, zf3⟩ := H8.out.z.cells
              obtain ⟨v0, v1, v2, v3, vf0, vf1, vf2, vf3⟩ := H8.out.v.cells
              go_wp2_with fail
              have HF := Lib.hid (H8.out.fin S)
              change bodyPost _ _ _ _ _ (put4 (W8) w.heap.size S)
              generalize put4 (W8) w.heap.size S = W9 at *
              obtain ⟨g0, g1, g2, g3, -⟩ := HF.out.2.cells
              (try simp only [Exit.inBlock, Exit.then])
              refine bodyPost_ret (v := .tuple #[setV S, .iface t' v']) (by simp [results, Tryd.results64, go_sem, g0, g1, g2, g3, setV, wv]) rfl ?_
              exact readPost_none (by rw [← HK.out, HNN.out]; rfl) ⟨_, _, _, rfl⟩ HF.out.1
            | some T =>
              obtain ⟨T, n⟩ := T
              have hn := ranged_k hrg
              have HLM := Lib.hid (left_more HL.out hq1 hd HNF.out hx hrg)
              refine (ranged_some W6 r a m cap q2 q l (u.drop x.k) x.one x.b x.s H6.out.rd hq2m hd2 x.k (T, n) hrg).mono ?_; rintro e w7 ⟨rfl, hr7, g7⟩
              obtain ⟨q3, hq3e⟩ : ∃ q3 : Nat, q3 = q2 + n := ⟨_, rfl⟩
              rw [show q2 + (T, n).2 = q3 from hq3e.symm] at hr7
              have H7 := Lib.hid (H6.out.went g7 hr7)
              have hq3m : q3 ≤ m ∧ q < q3 := by
                have h1 := congrArg List.length hd2
                have h2 := hr.hm
                simp at hn h1
                omega
              rw [← hq2e, ← hq3e] at HLM
              clear hd hx hrg hr7 g7 hd2 i0 i1 i2 i3 i4' i5 i6 hn hlt hlen hdn hxk hq2e hq3e
              unfold setV wv
              go_upto_region 14 with fail
              have H8 := Lib.hid (H7.out.alloc (.cells #[.int .u64 (wd T 0), .int .u64 (wd T 1), .int .u64 (wd T 2), .int .u64 (wd T 3)] 68))
              have HT8 := Lib.hid (show SetAt (w7.alloc (.cells #[.int .u64 (wd T 0), .int .u64 (wd T 1), .int .u64 (wd T 2), .int .u64 (wd T 3)] 68)) w7.heap.size T from heap_alloc_new _ _)
              generalize w7.alloc (.cells #[.int .u64 (wd T 0), .int .u64 (wd T 1), .int .u64 (wd T 2), .int .u64 (wd T 3)] 68) = W8 at *
              generalize w7.heap.size = Y9 at *
              clear z0 z1 z2 z3 zf0 zf1 zf2 zf3 v0 v1 v2 v3 vf0 vf1 vf2 vf3
              obtain ⟨z0, z1, z2, z3, zf0, zf1, zf2, zf3⟩ := H8.out.z.cells
              obtain ⟨v0, v1, v2, v3, vf0, vf1, vf2, vf3⟩ := H8.out.v.cells
              obtain ⟨t0, t1, t2, t3, -⟩ := HT8.out.cells
              go_wp2_with fail
              refine (union_any _ 2 2 [S, T] _ rfl (sets_block _ _ [S, T] _ 68 (block_at _ _ _ (by simp)) rfl) (by omega) (by omega)).mono ?_; rintro e w9 ⟨rfl, b9⟩
              have H9 := Lib.hid ((H8.out.alloc _).below b9)
              rw [show unionS [S, T] = S ||| T by simp [unionS]]
              generalize S ||| T = U at *
              unfold setV wv
              clear b9 t0 t1 t2 t3
              clear z0 z1 z2 z3 zf0 zf1 zf2 zf3 v0 v1 v2 v3 vf0 vf1 vf2 vf3
              obtain ⟨v0, v1, v2, v3, vf0, vf1, vf2, vf3⟩ := H9.out.v.cells
              go_wp2_with fail
              refine ⟨⟨false, q3, U, rfl, by omega, hq3m.1, HLM.out, H9.out.put U⟩, ?_⟩
              have e := toGo_eq (H9.out.put U).rd
              unfold put4 at e
              rw [e, toGo_eq HW.out.rd]
              omega
        | false =>
          have hb := st0_false (x := 93) hd (fun e => hf ⟨rfl, iv_inj e⟩)
          have HNF := Lib.hid (show NotEnd false c from hf)
          clear hf
          go_wp2_with fail
          go_quiet (fail)
          go_wp2_with (go_at_call 77; refine (Rd.is (by first | exact HW.out.rd | exact HW.out.rd.drewN _) (Nat.le_of_lt hqm) _ _ (by omega) (by omega) (by omega) (by omega)).mono ?_; rintro e w' ⟨rfl, q', rfl⟩)
          cases hx : itemS c u with
          | none =>
            have HNN := Lib.hid (left_none HL.out (by rw [hd]; exact read_item_none HNF.out hx))
            refine (item_none _ r a m cap q l c u (by first | exact HW.out.rd | exact (HW.out.rd.drewN _)) hd hx).mono ?_; rintro e w5 ⟨⟨t', v', rfl⟩, g5⟩
            have H5 := Lib.hid ((HW.out.drewN _).gone g5)
            obtain ⟨Z0, hZ0⟩ : ∃ Z0 : BitVec 256, Z0 = 0 := ⟨_, rfl⟩
            rw [← hZ0]
            clear hZ0 hd hx g5
            unfold itV wv
            go_upto_region 11 with fail
            have H6 := Lib.hid (H5.out.alloc (.cells #[.bool true, .int .u8 (iv 0), .int .u64 (wd Z0 0), .int .u64 (wd Z0 1), .int .u64 (wd Z0 2), .int .u64 (wd Z0 3), .int .i64 q] 122))
            generalize w5.alloc (.cells #[.bool true, .int .u8 (iv 0), .int .u64 (wd Z0 0), .int .u64 (wd Z0 1), .int .u64 (wd Z0 2), .int .u64 (wd Z0 3), .int .i64 q] 122) = W6 at *
            clear z0 z1 z2 z3 zf0 zf1 zf2 zf3 v0 v1 v2 v3 vf0 vf1 vf2 vf3
            obtain ⟨z0, z1, z2, z3, zf0, zf1, zf2, zf3⟩ := H6.out.z.cells
            obtain ⟨v0, v1, v2, v3, vf0, vf1, vf2, vf3⟩ := H6.out.v.cells
            go_wp2_with fail
            have HF := Lib.hid (H6.out.fin S)
            change bodyPost _ _ _ _ _ (put4 (W6) w.heap.size S)
            generalize put4 (W6) w.heap.size S = W9 at *
            obtain ⟨g0, g1, g2, g3, -⟩ := HF.out.2.cells
            (try simp only [Exit.inBlock, Exit.then])
            refine bodyPost_ret (v := .tuple #[setV S, .iface t' v']) (by simp [results, Tryd.results64, go_sem, g0, g1, g2, g3, setV, wv]) rfl ?_
            exact readPost_none (by rw [← HK.out, HNN.out]; rfl) ⟨_, _, _, rfl⟩ HF.out.1
          | some x =>
            have hxk := item_k hx
            obtain ⟨hlt, hlen, hdn⟩ := drop_lt c u hd
            obtain ⟨q2, hq2e⟩ : ∃ q2 : Nat, q2 = q + (x.k + 1) := ⟨_, rfl⟩
            have hq2m : q2 ≤ m := by have := hr.hm; omega
            have hd2 : l.drop q2 = u.drop x.k := by rw [hq2e, ← hdn, List.drop_drop]; congr 1; omega
            refine (item_some _ r a m cap q l c u (by first | exact HW.out.rd | exact (HW.out.rd.drewN _)) hd x hx).mono ?_; rintro e w5 ⟨rfl, hr5, g5⟩
            rw [← hq2e] at hr5
            have H5 := Lib.hid ((HW.out.drewN _).went g5 hr5)
            clear hr5 g5
            unfold itV wv
            go_upto_region 11 with fail
            have H6 := Lib.hid (H5.out.alloc (.cells #[.bool x.one, .int .u8 (iv x.b), .int .u64 (wd x.s 0), .int .u64 (wd x.s 1), .int .u64 (wd x.s 2), .int .u64 (wd x.s 3), .int .i64 q] 122))
            have HI6 := Lib.hid (show ItAt (w5.alloc (.cells #[.bool x.one, .int .u8 (iv x.b), .int .u64 (wd x.s 0), .int .u64 (wd x.s 1), .int .u64 (wd x.s 2), .int .u64 (wd x.s 3), .int .i64 q] 122)) w5.heap.size x.one x.b x.s q from heap_alloc_new _ _)
            generalize w5.alloc (.cells #[.bool x.one, .int .u8 (iv x.b), .int .u64 (wd x.s 0), .int .u64 (wd x.s 1), .int .u64 (wd x.s 2), .int .u64 (wd x.s 3), .int .i64 q] 122) = W6 at *
            generalize w5.heap.size = Y at *
            clear z0 z1 z2 z3 zf0 zf1 zf2 zf3 v0 v1 v2 v3 vf0 vf1 vf2 vf3
            obtain ⟨z0, z1, z2, z3, zf0, zf1, zf2, zf3⟩ := H6.out.z.cells
            obtain ⟨v0, v1, v2, v3, vf0, vf1, vf2, vf3⟩ := H6.out.v.cells
            obtain ⟨⟨i0, i1, i2, i3, i4', i5, i6⟩, -⟩ := HI6.out.cells
            go_wp2_with fail
            cases hrg : rangedS x (u.drop x.k) with
            | none =>
              have HNN := Lib.hid (left_none HL.out (by rw [hd]; exact read_ranged_none HNF.out hx hrg))
              refine (ranged_none W6 r a m cap q2 q l (u.drop x.k) x.one x.b x.s H6.out.rd hq2m hd2 x.k hrg).mono ?_; rintro e w7 ⟨⟨T, t', v', rfl⟩, g7⟩
              have H7 := Lib.hid (H6.out.gone g7)
              clear hd hx hrg g7 hd2 i0 i1 i2 i3 i4' i5 i6
              unfold setV wv
              go_upto_region 14 with fail
              have H8 := Lib.hid (H7.out.alloc (.cells #[.int .u64 (wd T 0), .int .u64 (wd T 1), .int .u64 (wd T 2), .int .u64 (wd T 3)] 68))
              generalize w7.alloc (.cells #[.int .u64 (wd T 0), .int .u64 (wd T 1), .int .u64 (wd T 2), .int .u64 (wd T 3)] 68) = W8 at *
              clear z0 z1 z2 z3 zf0 zf1 zf2 zf3 v0 v1 v2 v3 vf0 vf1 vf2 vf3
              obtain ⟨z0, z1, z2, z3, zf0, zf1, zf2, zf3⟩ := H8.out.z.cells
              obtain ⟨v0, v1, v2, v3, vf0, vf1, vf2, vf3⟩ := H8.out.v.cells
              go_wp2_with fail
              have HF := Lib.hid (H8.out.fin S)
              change bodyPost _ _ _ _ _ (put4 (W8) w.heap.size S)
              generalize put4 (W8) w.heap.size S = W9 at *
              obtain ⟨g0, g1, g2, g3, -⟩ := HF.out.2.cells
              (try simp only [Exit.inBlock, Exit.then])
              refine bodyPost_ret (v := .tuple #[setV S, .iface t' v']) (by simp [results, Tryd.results64, go_sem, g0, g1, g2, g3, setV, wv]) rfl ?_
              exact readPost_none (by rw [← HK.out, HNN.out]; rfl) ⟨_, _, _, rfl⟩ HF.out.1
            | some T =>
              obtain ⟨T, n⟩ := T
              have hn := ranged_k hrg
              have HLM := Lib.hid (left_more HL.out hq1 hd HNF.out hx hrg)
              refine (ranged_some W6 r a m cap q2 q l (u.drop x.k) x.one x.b x.s H6.out.rd hq2m hd2 x.k (T, n) hrg).mono ?_; rintro e w7 ⟨rfl, hr7, g7⟩
              obtain ⟨q3, hq3e⟩ : ∃ q3 : Nat, q3 = q2 + n := ⟨_, rfl⟩
              rw [show q2 + (T, n).2 = q3 from hq3e.symm] at hr7
              have H7 := Lib.hid (H6.out.went g7 hr7)
              have hq3m : q3 ≤ m ∧ q < q3 := by
                have h1 := congrArg List.length hd2
                have h2 := hr.hm
                simp at hn h1
                omega
              rw [← hq2e, ← hq3e] at HLM
              clear hd hx hrg hr7 g7 hd2 i0 i1 i2 i3 i4' i5 i6 hn hlt hlen hdn hxk hq2e hq3e
              unfold setV wv
              go_upto_region 14 with fail
              have H8 := Lib.hid (H7.out.alloc (.cells #[.int .u64 (wd T 0), .int .u64 (wd T 1), .int .u64 (wd T 2), .int .u64 (wd T 3)] 68))
              have HT8 := Lib.hid (show SetAt (w7.alloc (.cells #[.int .u64 (wd T 0), .int .u64 (wd T 1), .int .u64 (wd T 2), .int .u64 (wd T 3)] 68)) w7.heap.size T from heap_alloc_new _ _)
              generalize w7.alloc (.cells #[.int .u64 (wd T 0), .int .u64 (wd T 1), .int .u64 (wd T 2), .int .u64 (wd T 3)] 68) = W8 at *
              generalize w7.heap.size = Y9 at *
              clear z0 z1 z2 z3 zf0 zf1 zf2 zf3 v0 v1 v2 v3 vf0 vf1 vf2 vf3
              obtain ⟨z0, z1, z2, z3, zf0, zf1, zf2, zf3⟩ := H8.out.z.cells
              obtain ⟨v0, v1, v2, v3, vf0, vf1, vf2, vf3⟩ := H8.out.v.cells
              obtain ⟨t0, t1, t2, t3, -⟩ := HT8.out.cells
              go_wp2_with fail
              refine (union_any _ 2 2 [S, T] _ rfl (sets_block _ _ [S, T] _ 68 (block_at _ _ _ (by simp)) rfl) (by omega) (by omega)).mono ?_; rintro e w9 ⟨rfl, b9⟩
              have H9 := Lib.hid ((H8.out.alloc _).below b9)
              rw [show unionS [S, T] = S ||| T by simp [unionS]]
              generalize S ||| T = U at *
              unfold setV wv
              clear b9 t0 t1 t2 t3
              clear z0 z1 z2 z3 zf0 zf1 zf2 zf3 v0 v1 v2 v3 vf0 vf1 vf2 vf3
              obtain ⟨v0, v1, v2, v3, vf0, vf1, vf2, vf3⟩ := H9.out.v.cells
              go_wp2_with fail
              refine ⟨⟨false, q3, U, rfl, by omega, hq3m.1, HLM.out, H9.out.put U⟩, ?_⟩
              have e := toGo_eq (H9.out.put U).rd
              unfold put4 at e
              rw [e, toGo_eq HW.out.rd]
              omega
    · have hqe : q = m := by omega
      have hD : decide ((m : Int) ≤ (q : Int)) = true := by simp; omega
      have hI : (m : Int) ≤ (q : Int) := by omega
      have HNN := Lib.hid (left_none HL.out (by rw [List.drop_eq_nil_of_le (by rw [hr.hm]; omega), readS]))
      go_wp2_with fail
      go_quiet (fail)
      go_wp2_with fail
      go_region_held3 (fun W => W.cell? ⟨w.heap.size + 1, 0, none⟩ = some (.int .u64 (wd S 0)) ∧ W.cell? ⟨w.heap.size + 1, 1, none⟩ = some (.int .u64 (wd S 1)) ∧ W.cell? ⟨w.heap.size + 1, 2, none⟩ = some (.int .u64 (wd S 2)) ∧ W.cell? ⟨w.heap.size + 1, 3, none⟩ = some (.int .u64 (wd S 3)) ∧ W.cell? ⟨r, 0, none⟩ = some (.slice a m cap))
        (first | with_reducible exact H9.out | with_reducible exact H8.out.s5 | with_reducible exact (HW.out.drewN _).s5 | with_reducible exact (HW.out.drewN _).drew.s5)
        ((go_at_call 63; refine (((HW.out.drewN _).drew.rd).fail _ (by omega) (by omega) _).mono ?_; rintro e w8 ⟨⟨t', v', rfl⟩, b8⟩; have H8 := Lib.hid ((HW.out.drewN _).drew.below b8); clear b8; obtain ⟨e0, e1, e2, e3, ef0, ef1, ef2, ef3⟩ := H8.out.z.cells; have H9 := Lib.hid (H8.out.f5 S); unfold put4 at H9))
      have HF := Lib.hid (H8.out.fin S)
      rename_i hHeld
      clear hHeld e0 e1 e2 e3
      change Exit.then _ _ _ _ (put4 w8 w.heap.size S)
      generalize put4 w8 w.heap.size S = W9 at *
      obtain ⟨g0, g1, g2, g3, -⟩ := HF.out.2.2.1.cells
      go_wp2_with fail
      (try simp only [Exit.inBlock, Exit.then])
      refine bodyPost_ret (v := .tuple #[setV S, .iface t' v']) (by simp [results, Tryd.results64, go_sem, g0, g1, g2, g3, setV, wv]) rfl ?_
      exact readPost_none (by rw [← HK.out, HNN.out]; rfl) ⟨_, _, _, rfl⟩ HF.out.2.1

set_option maxRecDepth 100000 in
set_option maxHeartbeats 4000000 in
theorem read_plain (w : World) (r : Nat) (a : Option Addr) (m cap p : Nat) (l : List UInt8) (hr : Rd w r a m cap p l) (hp : p ≤ m) (h1 : stI l (p : Int) 94 = false) (h2 : stI l (p : Int) 33 = false) :
    Calls Tryd.prog 64 #[.pointer (some ⟨r, 0, none⟩)] w fun e w' => ReadPost w w' r a m cap p (readS true 0 (l.drop p)) e := by
  have hrl := hr.lt
  have hmb := hr.mb
  have hcs := hr.cs
  have hmc := hr.ms
  have i4 : IntKind.i64.wrap ((p : Int) + 1) = (p : Int) + 1 := by rw [IntKind.wrap_i64]; omega
  have HR := Lib.hid (hr.alloc (.cells #[.int .u64 0, .int .u64 0, .int .u64 0, .int .u64 0] 68))
  obtain ⟨Z, hZ⟩ : ∃ Z : BitVec 256, Z = 0 := ⟨_, rfl⟩
  have HZ := Lib.hid (show SetAt (w.alloc (.cells #[.int .u64 0, .int .u64 0, .int .u64 0, .int .u64 0] 68)) w.heap.size Z by rw [hZ]; exact setat_alloc w)
  have HS := Lib.hid (show (w.alloc (.cells #[.int .u64 0, .int .u64 0, .int .u64 0, .int .u64 0] 68)).heap.size = w.heap.size + 1 by simp)
  have HG := Lib.hid (alloc_grown w (.cells #[.int .u64 0, .int .u64 0, .int .u64 0, .int .u64 0] 68) (some r))
  clear hZ
  go_enter Tryd.func64, Tryd.ntmps64
  go_upto_region 1 with fail
  generalize (w.alloc (.cells #[.int .u64 0, .int .u64 0, .int .u64 0, .int .u64 0] 68)) = W0 at *
  obtain ⟨y0, y1, y2, yf⟩ := HR.out.cells
  go_wp2_with (go_at_call 77; refine (Rd.is (by first | exact HR.out | exact HR.out.drewN _) hp _ _ (by omega) (by omega) (by omega) (by omega)).mono ?_; rintro e w' ⟨rfl, q, rfl⟩)
  obtain ⟨k, hk⟩ : ∃ k : Nat, k = p := ⟨_, rfl⟩
  have hkm : k ≤ m := by omega
  have HST := Lib.hid (fun n => ReW.mk' (HR.out.drewN n) ((HZ.out).kept (drewN_grown W0 n none) (by simp)) (by simpa using HS.out) hrl (grown_trans HG.out (drewN_grown W0 n _)))
  rw [← hk] at HST
  have HKI := Lib.hid (show ((k : Nat) : Int) = (p : Int) by rw [hk]; (try rfl))
  have HK := Lib.hid hk
  clear y0 y1 y2 yf
  rw [HS.out]
  go_loopw [6] (fun f wr => ∃ (first : Bool) (q : Nat) (S : BitVec 256), f = .bool first ∧ k ≤ q ∧ q ≤ m ∧ LeftS l k q first S ∧ ReW w wr r a m cap q l Z S) (fun _ W => toGo r m W)
  case atStart =>
    have hst := fun n => HST.out n
    skip
    exact ⟨true, k, 0, rfl, Nat.le_refl _, hkm, left_start l k, hst _⟩
  case round =>
    obtain ⟨first, q, S, rfl, hq1, hq2, hleft, hw⟩ := hrel
    have HW := Lib.hid hw
    have HL := Lib.hid hleft
    clear hleft hw HST HR HZ HS HG
    obtain ⟨y0, y1, y2, yf⟩ := HW.out.rd.cells
    obtain ⟨z0, z1, z2, z3, zf0, zf1, zf2, zf3⟩ := HW.out.z.cells
    obtain ⟨v0, v1, v2, v3, vf0, vf1, vf2, vf3⟩ := HW.out.v.cells
    have n1 : ¬ r = w.heap.size + 1 := by omega
    have n2 : ¬ r = w.heap.size := by omega
    have n3 : ¬ w.heap.size = r := by omega
    have n4 : ¬ w.heap.size + 1 = r := by omega
    by_cases hqm : q < m
    · obtain ⟨c, u, hd⟩ := drop_some (l := l) (q := q) (by rw [hr.hm]; exact hqm)
      have hD : decide ((m : Int) ≤ (q : Int)) = false := by simp; omega
      have hI : ¬ (m : Int) ≤ (q : Int) := by omega
      by_cases hf : first = false ∧ c = 93
      · obtain ⟨rfl, rfl⟩ := hf
        have hb := st0_true (x := 93) hd rfl
        have HST := Lib.hid (left_stop HL.out hd)
        clear hd
        go_wp2_with fail
        go_quiet (fail)
        go_wp2_with (go_at_call 77; refine (Rd.is (by first | exact HW.out.rd | exact HW.out.rd.drewN _) (Nat.le_of_lt hqm) _ _ (by omega) (by omega) (by omega) (by omega)).mono ?_; rintro e w' ⟨rfl, q', rfl⟩)
        have HF := Lib.hid (((HW.out.drewN (nq + q')).move (q + 1)).fin S)
        change bodyPost _ _ _ _ _ (put4 ((wr.drewN (nq + q')).setCell ⟨r, 1, none⟩ (.int .i64 ((q + 1 : Nat) : Int))) w.heap.size S)
        generalize put4 ((wr.drewN (nq + q')).setCell ⟨r, 1, none⟩ (.int .i64 ((q + 1 : Nat) : Int))) w.heap.size S = W9 at *
        obtain ⟨g0, g1, g2, g3, -⟩ := HF.out.2.2.1.cells
        (try simp only [Exit.inBlock, Exit.then])
        refine bodyPost_ret (v := .tuple #[setV S, .nilIface]) (by simp [results, Tryd.results64, go_sem, g0, g1, g2, g3, setV, wv]) rfl ?_
        refine readPost_some (T := S) (n := q - k + 1) (by rw [← HK.out, HST.out]) rfl ?_ HF.out.2.1
        rw [show p + (q - k + 1) = q + 1 by have := HK.out; omega]
        exact HF.out.1
      · cases first with
        | true =>
          have HNF := Lib.hid (show NotEnd true c from hf)
          clear hf
          go_wp2_with fail
          go_quiet (fail)
          go_wp2_with (go_at_call 77; refine (Rd.is (by first | exact HW.out.rd | exact HW.out.rd.drewN _) (Nat.le_of_lt hqm) _ _ (by omega) (by omega) (by omega) (by omega)).mono ?_; rintro e w' ⟨rfl, q', rfl⟩)
          cases hx : itemS c u with
          | none =>
            have HNN := Lib.hid (left_none HL.out (by rw [hd]; exact read_item_none HNF.out hx))
            refine (item_none _ r a m cap q l c u (by first | exact HW.out.rd | exact (HW.out.rd.drewN _)) hd hx).mono ?_; rintro e w5 ⟨⟨t', v', rfl⟩, g5⟩
            have H5 := Lib.hid ((HW.out.drewN _).gone g5)
            obtain ⟨Z0, hZ0⟩ : ∃ Z0 : BitVec 256, Z0 = 0 := ⟨_, rfl⟩
            rw [← hZ0]
            clear hZ0 hd hx g5
            unfold itV wv
            go_upto_region 11 with fail
            have H6 := Lib.hid (H5.out.alloc (.cells #[.bool true, .int .u8 (iv 0), .int .u64 (wd Z0 0), .int .u64 (wd Z0 1), .int .u64 (wd Z0 2), .int .u64 (wd Z0 3), .int .i64 q] 122))
            generalize w5.alloc (.cells #[.bool true, .int .u8 (iv 0), .int .u64 (wd Z0 0), .int .u64 (wd Z0 1), .int .u64 (wd Z0 2), .int .u64 (wd Z0 3), .int .i64 q] 122) = W6 at *
            clear z0 z1 z2 z3 zf0 zf1 zf2 zf3 v0 v1 v2 v3 vf0 vf1 vf2 vf3
            obtain ⟨z0, z1, z2, z3, zf0, zf1, zf2, zf3⟩ := H6.out.z.cells
            obtain ⟨v0, v1, v2, v3, vf0, vf1, vf2, vf3⟩ := H6.out.v.cells
            go_wp2_with fail
            have HF := Lib.hid (H6.out.fin S)
            change bodyPost _ _ _ _ _ (put4 (W6) w.heap.size S)
            generalize put4 (W6) w.heap.size S = W9 at *
            obtain ⟨g0, g1, g2, g3, -⟩ := HF.out.2.cells
            (try simp only [Exit.inBlock, Exit.then])
            refine bodyPost_ret (v := .tuple #[setV S, .iface t' v']) (by simp [results, Tryd.results64, go_sem, g0, g1, g2, g3, setV, wv]) rfl ?_
            exact readPost_none (by rw [← HK.out, HNN.out]) ⟨_, _, _, rfl⟩ HF.out.1
          | some x =>
            have hxk := item_k hx
            obtain ⟨hlt, hlen, hdn⟩ := drop_lt c u hd
            obtain ⟨q2, hq2e⟩ : ∃ q2 : Nat, q2 = q + (x.k + 1) := ⟨_, rfl⟩
            have hq2m : q2 ≤ m := by have := hr.hm; omega
            have hd2 : l.drop q2 = u.drop x.k := by rw [hq2e, ← hdn, List.drop_drop]; congr 1; omega
            refine (item_some _ r a m cap q l c u (by first | exact HW.out.rd | exact (HW.out.rd.drewN _)) hd x hx).mono ?_; rintro e w5 ⟨rfl, hr5, g5⟩
            rw [← hq2e] at hr5
            have H5 := Lib.hid ((HW.out.drewN _).went g5 hr5)
            clear hr5 g5
            unfold itV wv
            go_upto_region 11 with fail
            have H6 := Lib.hid (H5.out.alloc (.cells #[.bool x.one, .int .u8 (iv x.b), .int .u64 (wd x.s 0), .int .u64 (wd x.s 1), .int .u64 (wd x.s 2), .int .u64 (wd x.s 3), .int .i64 q] 122))
            have HI6 := Lib.hid (show ItAt (w5.alloc (.cells #[.bool x.one, .int .u8 (iv x.b), .int .u64 (wd x.s 0), .int .u64 (wd x.s 1), .int .u64 (wd x.s 2), .int .u64 (wd x.s 3), .int .i64 q] 122)) w5.heap.size x.one x.b x.s q from heap_alloc_new _ _)
            generalize w5.alloc (.cells #[.bool x.one, .int .u8 (iv x.b), .int .u64 (wd x.s 0), .int .u64 (wd x.s 1), .int .u64 (wd x.s 2), .int .u64 (wd x.s 3), .int .i64 q] 122) = W6 at *
            generalize w5.heap.size = Y at *
            clear z0 z1 z2 z3 zf0 zf1 zf2 zf3 v0 v1 v2 v3 vf0 vf1 vf2 vf3
            obtain ⟨z0, z1, z2, z3, zf0, zf1, zf2, zf3⟩ := H6.out.z.cells
            obtain ⟨v0, v1, v2, v3, vf0, vf1, vf2, vf3⟩ := H6.out.v.cells
            obtain ⟨⟨i0, i1, i2, i3, i4', i5, i6⟩, -⟩ := HI6.out.cells
            go_wp2_with fail
            cases hrg : rangedS x (u.drop x.k) with
            | none =>
              have HNN := Lib.hid (left_none HL.out (by rw [hd]; exact read_ranged_none HNF.out hx hrg))
              refine (ranged_none W6 r a m cap q2 q l (u.drop x.k) x.one x.b x.s H6.out.rd hq2m hd2 x.k hrg).mono ?_; rintro e w7 ⟨⟨T, t', v', rfl⟩, g7⟩
              have H7 := Lib.hid (H6.out.gone g7)
              clear hd hx hrg g7 hd2 i0 i1 i2 i3 i4' i5 i6
              unfold setV wv
              go_upto_region 14 with fail
              have H8 := Lib.hid (H7.out.alloc (.cells #[.int .u64 (wd T 0), .int .u64 (wd T 1), .int .u64 (wd T 2), .int .u64 (wd T 3)] 68))
              generalize w7.alloc (.cells #[.int .u64 (wd T 0), .int .u64 (wd T 1), .int .u64 (wd T 2), .int .u64 (wd T 3)] 68) = W8 at *
              clear z0 z1 z2 z3 zf0 zf1 zf2 zf3 v0 v1 v2 v3 vf0 vf1 vf2 vf3
              obtain ⟨z0, z1, z2, z3, zf0, zf1, zf2, zf3⟩ := H8.out.z.cells
              obtain ⟨v0, v1, v2, v3, vf0, vf1, vf2, vf3⟩ := H8.out.v.cells
              go_wp2_with fail
              have HF := Lib.hid (H8.out.fin S)
              change bodyPost _ _ _ _ _ (put4 (W8) w.heap.size S)
              generalize put4 (W8) w.heap.size S = W9 at *
              obtain ⟨g0, g1, g2, g3, -⟩ := HF.out.2.cells
              (try simp only [Exit.inBlock, Exit.then])
              refine bodyPost_ret (v := .tuple #[setV S, .iface t' v']) (by simp [results, Tryd.results64, go_sem, g0, g1, g2, g3, setV, wv]) rfl ?_
              exact readPost_none (by rw [← HK.out, HNN.out]) ⟨_, _, _, rfl⟩ HF.out.1
            | some T =>
              obtain ⟨T, n⟩ := T
              have hn := ranged_k hrg
              have HLM := Lib.hid (left_more HL.out hq1 hd HNF.out hx hrg)
              refine (ranged_some W6 r a m cap q2 q l (u.drop x.k) x.one x.b x.s H6.out.rd hq2m hd2 x.k (T, n) hrg).mono ?_; rintro e w7 ⟨rfl, hr7, g7⟩
              obtain ⟨q3, hq3e⟩ : ∃ q3 : Nat, q3 = q2 + n := ⟨_, rfl⟩
              rw [show q2 + (T, n).2 = q3 from hq3e.symm] at hr7
              have H7 := Lib.hid (H6.out.went g7 hr7)
              have hq3m : q3 ≤ m ∧ q < q3 := by
                have h1 := congrArg List.length hd2
                have h2 := hr.hm
                simp at hn h1
                omega
              rw [← hq2e, ← hq3e] at HLM
              clear hd hx hrg hr7 g7 hd2 i0 i1 i2 i3 i4' i5 i6 hn hlt hlen hdn hxk hq2e hq3e
              unfold setV wv
              go_upto_region 14 with fail
              have H8 := Lib.hid (H7.out.alloc (.cells #[.int .u64 (wd T 0), .int .u64 (wd T 1), .int .u64 (wd T 2), .int .u64 (wd T 3)] 68))
              have HT8 := Lib.hid (show SetAt (w7.alloc (.cells #[.int .u64 (wd T 0), .int .u64 (wd T 1), .int .u64 (wd T 2), .int .u64 (wd T 3)] 68)) w7.heap.size T from heap_alloc_new _ _)
              generalize w7.alloc (.cells #[.int .u64 (wd T 0), .int .u64 (wd T 1), .int .u64 (wd T 2), .int .u64 (wd T 3)] 68) = W8 at *
              generalize w7.heap.size = Y9 at *
              clear z0 z1 z2 z3 zf0 zf1 zf2 zf3 v0 v1 v2 v3 vf0 vf1 vf2 vf3
              obtain ⟨z0, z1, z2, z3, zf0, zf1, zf2, zf3⟩ := H8.out.z.cells
              obtain ⟨v0, v1, v2, v3, vf0, vf1, vf2, vf3⟩ := H8.out.v.cells
              obtain ⟨t0, t1, t2, t3, -⟩ := HT8.out.cells
              go_wp2_with fail
              refine (union_any _ 2 2 [S, T] _ rfl (sets_block _ _ [S, T] _ 68 (block_at _ _ _ (by simp)) rfl) (by omega) (by omega)).mono ?_; rintro e w9 ⟨rfl, b9⟩
              have H9 := Lib.hid ((H8.out.alloc _).below b9)
              rw [show unionS [S, T] = S ||| T by simp [unionS]]
              generalize S ||| T = U at *
              unfold setV wv
              clear b9 t0 t1 t2 t3
              clear z0 z1 z2 z3 zf0 zf1 zf2 zf3 v0 v1 v2 v3 vf0 vf1 vf2 vf3
              obtain ⟨v0, v1, v2, v3, vf0, vf1, vf2, vf3⟩ := H9.out.v.cells
              go_wp2_with fail
              refine ⟨⟨false, q3, U, rfl, by omega, hq3m.1, HLM.out, H9.out.put U⟩, ?_⟩
              have e := toGo_eq (H9.out.put U).rd
              unfold put4 at e
              rw [e, toGo_eq HW.out.rd]
              omega
        | false =>
          have hb := st0_false (x := 93) hd (fun e => hf ⟨rfl, iv_inj e⟩)
          have HNF := Lib.hid (show NotEnd false c from hf)
          clear hf
          go_wp2_with fail
          go_quiet (fail)
          go_wp2_with (go_at_call 77; refine (Rd.is (by first | exact HW.out.rd | exact HW.out.rd.drewN _) (Nat.le_of_lt hqm) _ _ (by omega) (by omega) (by omega) (by omega)).mono ?_; rintro e w' ⟨rfl, q', rfl⟩)
          cases hx : itemS c u with
          | none =>
            have HNN := Lib.hid (left_none HL.out (by rw [hd]; exact read_item_none HNF.out hx))
            refine (item_none _ r a m cap q l c u (by first | exact HW.out.rd | exact (HW.out.rd.drewN _)) hd hx).mono ?_; rintro e w5 ⟨⟨t', v', rfl⟩, g5⟩
            have H5 := Lib.hid ((HW.out.drewN _).gone g5)
            obtain ⟨Z0, hZ0⟩ : ∃ Z0 : BitVec 256, Z0 = 0 := ⟨_, rfl⟩
            rw [← hZ0]
            clear hZ0 hd hx g5
            unfold itV wv
            go_upto_region 11 with fail
            have H6 := Lib.hid (H5.out.alloc (.cells #[.bool true, .int .u8 (iv 0), .int .u64 (wd Z0 0), .int .u64 (wd Z0 1), .int .u64 (wd Z0 2), .int .u64 (wd Z0 3), .int .i64 q] 122))
            generalize w5.alloc (.cells #[.bool true, .int .u8 (iv 0), .int .u64 (wd Z0 0), .int .u64 (wd Z0 1), .int .u64 (wd Z0 2), .int .u64 (wd Z0 3), .int .i64 q] 122) = W6 at *
            clear z0 z1 z2 z3 zf0 zf1 zf2 zf3 v0 v1 v2 v3 vf0 vf1 vf2 vf3
            obtain ⟨z0, z1, z2, z3, zf0, zf1, zf2, zf3⟩ := H6.out.z.cells
            obtain ⟨v0, v1, v2, v3, vf0, vf1, vf2, vf3⟩ := H6.out.v.cells
            go_wp2_with fail
            have HF := Lib.hid (H6.out.fin S)
            change bodyPost _ _ _ _ _ (put4 (W6) w.heap.size S)
            generalize put4 (W6) w.heap.size S = W9 at *
            obtain ⟨g0, g1, g2, g3, -⟩ := HF.out.2.cells
            (try simp only [Exit.inBlock, Exit.then])
            refine bodyPost_ret (v := .tuple #[setV S, .iface t' v']) (by simp [results, Tryd.results64, go_sem, g0, g1, g2, g3, setV, wv]) rfl ?_
            exact readPost_none (by rw [← HK.out, HNN.out]) ⟨_, _, _, rfl⟩ HF.out.1
          | some x =>
            have hxk := item_k hx
            obtain ⟨hlt, hlen, hdn⟩ := drop_lt c u hd
            obtain ⟨q2, hq2e⟩ : ∃ q2 : Nat, q2 = q + (x.k + 1) := ⟨_, rfl⟩
            have hq2m : q2 ≤ m := by have := hr.hm; omega
            have hd2 : l.drop q2 = u.drop x.k := by rw [hq2e, ← hdn, List.drop_drop]; congr 1; omega
            refine (item_some _ r a m cap q l c u (by first | exact HW.out.rd | exact (HW.out.rd.drewN _)) hd x hx).mono ?_; rintro e w5 ⟨rfl, hr5, g5⟩
            rw [← hq2e] at hr5
            have H5 := Lib.hid ((HW.out.drewN _).went g5 hr5)
            clear hr5 g5
            unfold itV wv
            go_upto_region 11 with fail
            have H6 := Lib.hid (H5.out.alloc (.cells #[.bool x.one, .int .u8 (iv x.b), .int .u64 (wd x.s 0), .int .u64 (wd x.s 1), .int .u64 (wd x.s 2), .int .u64 (wd x.s 3), .int .i64 q] 122))
            have HI6 := Lib.hid (show ItAt (w5.alloc (.cells #[.bool x.one, .int .u8 (iv x.b), .int .u64 (wd x.s 0), .int .u64 (wd x.s 1), .int .u64 (wd x.s 2), .int .u64 (wd x.s 3), .int .i64 q] 122)) w5.heap.size x.one x.b x.s q from heap_alloc_new _ _)
            generalize w5.alloc (.cells #[.bool x.one, .int .u8 (iv x.b), .int .u64 (wd x.s 0), .int .u64 (wd x.s 1), .int .u64 (wd x.s 2), .int .u64 (wd x.s 3), .int .i64 q] 122) = W6 at *
            generalize w5.heap.size = Y at *
            clear z0 z1 z2 z3 zf0 zf1 zf2 zf3 v0 v1 v2 v3 vf0 vf1 vf2 vf3
            obtain ⟨z0, z1, z2, z3, zf0, zf1, zf2, zf3⟩ := H6.out.z.cells
            obtain ⟨v0, v1, v2, v3, vf0, vf1, vf2, vf3⟩ := H6.out.v.cells
            obtain ⟨⟨i0, i1, i2, i3, i4', i5, i6⟩, -⟩ := HI6.out.cells
            go_wp2_with fail
            cases hrg : rangedS x (u.drop x.k) with
            | none =>
              have HNN := Lib.hid (left_none HL.out (by rw [hd]; exact read_ranged_none HNF.out hx hrg))
              refine (ranged_none W6 r a m cap q2 q l (u.drop x.k) x.one x.b x.s H6.out.rd hq2m hd2 x.k hrg).mono ?_; rintro e w7 ⟨⟨T, t', v', rfl⟩, g7⟩
              have H7 := Lib.hid (H6.out.gone g7)
              clear hd hx hrg g7 hd2 i0 i1 i2 i3 i4' i5 i6
              unfold setV wv
              go_upto_region 14 with fail
              have H8 := Lib.hid (H7.out.alloc (.cells #[.int .u64 (wd T 0), .int .u64 (wd T 1), .int .u64 (wd T 2), .int .u64 (wd T 3)] 68))
              generalize w7.alloc (.cells #[.int .u64 (wd T 0), .int .u64 (wd T 1), .int .u64 (wd T 2), .int .u64 (wd T 3)] 68) = W8 at *
              clear z0 z1 z2 z3 zf0 zf1 zf2 zf3 v0 v1 v2 v3 vf0 vf1 vf2 vf3
              obtain ⟨z0, z1, z2, z3, zf0, zf1, zf2, zf3⟩ := H8.out.z.cells
              obtain ⟨v0, v1, v2, v3, vf0, vf1, vf2, vf3⟩ := H8.out.v.cells
              go_wp2_with fail
              have HF := Lib.hid (H8.out.fin S)
              change bodyPost _ _ _ _ _ (put4 (W8) w.heap.size S)
              generalize put4 (W8) w.heap.size S = W9 at *
              obtain ⟨g0, g1, g2, g3, -⟩ := HF.out.2.cells
              (try simp only [Exit.inBlock, Exit.then])
              refine bodyPost_ret (v := .tuple #[setV S, .iface t' v']) (by simp [results, Tryd.results64, go_sem, g0, g1, g2, g3, setV, wv]) rfl ?_
              exact readPost_none (by rw [← HK.out, HNN.out]) ⟨_, _, _, rfl⟩ HF.out.1
            | some T =>
              obtain ⟨T, n⟩ := T
              have hn := ranged_k hrg
              have HLM := Lib.hid (left_more HL.out hq1 hd HNF.out hx hrg)
              refine (ranged_some W6 r a m cap q2 q l (u.drop x.k) x.one x.b x.s H6.out.rd hq2m hd2 x.k (T, n) hrg).mono ?_; rintro e w7 ⟨rfl, hr7, g7⟩
              obtain ⟨q3, hq3e⟩ : ∃ q3 : Nat, q3 = q2 + n := ⟨_, rfl⟩
              rw [show q2 + (T, n).2 = q3 from hq3e.symm] at hr7
              have H7 := Lib.hid (H6.out.went g7 hr7)
              have hq3m : q3 ≤ m ∧ q < q3 := by
                have h1 := congrArg List.length hd2
                have h2 := hr.hm
                simp at hn h1
                omega
              rw [← hq2e, ← hq3e] at HLM
              clear hd hx hrg hr7 g7 hd2 i0 i1 i2 i3 i4' i5 i6 hn hlt hlen hdn hxk hq2e hq3e
              unfold setV wv
              go_upto_region 14 with fail
              have H8 := Lib.hid (H7.out.alloc (.cells #[.int .u64 (wd T 0), .int .u64 (wd T 1), .int .u64 (wd T 2), .int .u64 (wd T 3)] 68))
              have HT8 := Lib.hid (show SetAt (w7.alloc (.cells #[.int .u64 (wd T 0), .int .u64 (wd T 1), .int .u64 (wd T 2), .int .u64 (wd T 3)] 68)) w7.heap.size T from heap_alloc_new _ _)
              generalize w7.alloc (.cells #[.int .u64 (wd T 0), .int .u64 (wd T 1), .int .u64 (wd T 2), .int .u64 (wd T 3)] 68) = W8 at *
              generalize w7.heap.size = Y9 at *
              clear z0 z1 z2 z3 zf0 zf1 zf2 zf3 v0 v1 v2 v3 vf0 vf1 vf2 vf3
              obtain ⟨z0, z1, z2, z3, zf0, zf1, zf2, zf3⟩ := H8.out.z.cells
              obtain ⟨v0, v1, v2, v3, vf0, vf1, vf2, vf3⟩ := H8.out.v.cells
              obtain ⟨t0, t1, t2, t3, -⟩ := HT8.out.cells
              go_wp2_with fail
              refine (union_any _ 2 2 [S, T] _ rfl (sets_block _ _ [S, T] _ 68 (block_at _ _ _ (by simp)) rfl) (by omega) (by omega)).mono ?_; rintro e w9 ⟨rfl, b9⟩
              have H9 := Lib.hid ((H8.out.alloc _).below b9)
              rw [show unionS [S, T] = S ||| T by simp [unionS]]
              generalize S ||| T = U at *
              unfold setV wv
              clear b9 t0 t1 t2 t3
              clear z0 z1 z2 z3 zf0 zf1 zf2 zf3 v0 v1 v2 v3 vf0 vf1 vf2 vf3
              obtain ⟨v0, v1, v2, v3, vf0, vf1, vf2, vf3⟩ := H9.out.v.cells
              go_wp2_with fail
              refine ⟨⟨false, q3, U, rfl, by omega, hq3m.1, HLM.out, H9.out.put U⟩, ?_⟩
              have e := toGo_eq (H9.out.put U).rd
              unfold put4 at e
              rw [e, toGo_eq HW.out.rd]
              omega
    · have hqe : q = m := by omega
      have hD : decide ((m : Int) ≤ (q : Int)) = true := by simp; omega
      have hI : (m : Int) ≤ (q : Int) := by omega
      have HNN := Lib.hid (left_none HL.out (by rw [List.drop_eq_nil_of_le (by rw [hr.hm]; omega), readS]))
      go_wp2_with fail
      go_quiet (fail)
      go_wp2_with fail
      go_region_held3 (fun W => W.cell? ⟨w.heap.size + 1, 0, none⟩ = some (.int .u64 (wd S 0)) ∧ W.cell? ⟨w.heap.size + 1, 1, none⟩ = some (.int .u64 (wd S 1)) ∧ W.cell? ⟨w.heap.size + 1, 2, none⟩ = some (.int .u64 (wd S 2)) ∧ W.cell? ⟨w.heap.size + 1, 3, none⟩ = some (.int .u64 (wd S 3)) ∧ W.cell? ⟨r, 0, none⟩ = some (.slice a m cap))
        (first | with_reducible exact H9.out | with_reducible exact H8.out.s5 | with_reducible exact (HW.out.drewN _).s5 | with_reducible exact (HW.out.drewN _).drew.s5)
        ((go_at_call 63; refine (((HW.out.drewN _).drew.rd).fail _ (by omega) (by omega) _).mono ?_; rintro e w8 ⟨⟨t', v', rfl⟩, b8⟩; have H8 := Lib.hid ((HW.out.drewN _).drew.below b8); clear b8; obtain ⟨e0, e1, e2, e3, ef0, ef1, ef2, ef3⟩ := H8.out.z.cells; have H9 := Lib.hid (H8.out.f5 S); unfold put4 at H9))
      have HF := Lib.hid (H8.out.fin S)
      rename_i hHeld
      clear hHeld e0 e1 e2 e3
      change Exit.then _ _ _ _ (put4 w8 w.heap.size S)
      generalize put4 w8 w.heap.size S = W9 at *
      obtain ⟨g0, g1, g2, g3, -⟩ := HF.out.2.2.1.cells
      go_wp2_with fail
      (try simp only [Exit.inBlock, Exit.then])
      refine bodyPost_ret (v := .tuple #[setV S, .iface t' v']) (by simp [results, Tryd.results64, go_sem, g0, g1, g2, g3, setV, wv]) rfl ?_
      exact readPost_none (by rw [← HK.out, HNN.out]) ⟨_, _, _, rfl⟩ HF.out.2.1

end Go.Proofs.YtafmhhhboihdfaaDoor
