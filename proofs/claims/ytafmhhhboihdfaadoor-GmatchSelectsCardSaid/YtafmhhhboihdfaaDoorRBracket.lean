/-
  The document's answer: a bracket. Conditions: those that each theorem names.
-/
import Derived.Test.YtafmhhhboihdfaaDoorRItem2
import Derived.Deep.RegionLaw
import Derived.Deep.CutBlock
import Derived.Deep.DeepCutAuto
import Derived.Outline
namespace Go.Proofs.YtafmhhhboihdfaaDoor
open Go.RowKit
set_option linter.unusedVariables false
attribute [local go_sem ↓] Go.wp_at_zero Go.wp_at_succ
set_option maxRecDepth 100000 in
theorem rf_any (c p g : Int) (w : World) : Calls Tryd.prog 34 #[.int .i64 c, .int .i64 p, .int .i64 g] w fun e w' => e = .returned (.agg #[.int .i64 c, .int .i64 p, .int .i64 g]) ∧ Below w.heap.size w w' := by
  have HB := Lib.hid (show Below w.heap.size w (w.alloc (.cells #[.int .i64 c, .int .i64 p, .int .i64 g] 38)) from (Below.refl _ _).alloc (Nat.le_refl _) _)
  have HH := Lib.hid (heap_alloc_new w (.cells #[.int .i64 c, .int .i64 p, .int .i64 g] 38))
  go_enter Tryd.func34, Tryd.ntmps34
  go_wp2_with fail
  generalize w.alloc (.cells #[.int .i64 c, .int .i64 p, .int .i64 g] 38) = W at *
  have p0 : W.cell? ⟨w.heap.size, 0, none⟩ = some (.int .i64 c) := by rw [cell_of_heap HH.out]; rfl
  have p1 : W.cell? ⟨w.heap.size, 1, none⟩ = some (.int .i64 p) := by rw [cell_of_heap HH.out]; rfl
  have p2 : W.cell? ⟨w.heap.size, 2, none⟩ = some (.int .i64 g) := by rw [cell_of_heap HH.out]; rfl
  refine bodyPost_ret (v := .agg #[.int .i64 c, .int .i64 p, .int .i64 g]) (by simp [results, Tryd.results34, go_sem, p0, p1, p2]) rfl ?_
  exact ⟨rfl, HB.out⟩
/-- a fault in its block -/
def FAt (W : World) (g : Nat) (c p k : Int) : Prop := W.heap[g]? = some (.cells #[.int .i64 c, .int .i64 p, .int .i64 k] 38)
theorem FAt.cells {W : World} {g : Nat} {c p k : Int} (h : FAt W g c p k) : W.cell? ⟨g, 0, none⟩ = some (.int .i64 c) ∧ W.cell? ⟨g, 1, none⟩ = some (.int .i64 p) ∧ W.cell? ⟨g, 2, none⟩ = some (.int .i64 k) ∧ W.frozen? ⟨g, 0, none⟩ = false ∧ W.frozen? ⟨g, 1, none⟩ = false ∧ W.frozen? ⟨g, 2, none⟩ = false := by
  unfold FAt at h
  refine ⟨?_, ?_, ?_, ?_, ?_, ?_⟩
  · rw [cell_of_heap h]; rfl
  · rw [cell_of_heap h]; rfl
  · rw [cell_of_heap h]; rfl
  · rw [World.frozen?, h]; rfl
  · rw [World.frozen?, h]; rfl
  · rw [World.frozen?, h]; rfl
theorem FAt.lt {W : World} {g : Nat} {c p k : Int} (h : FAt W g c p k) : g < W.heap.size := (Array.getElem?_eq_some_iff.1 h).1
theorem FAt.below {W W' : World} {B g : Nat} {c p k : Int} (h : FAt W g c p k) (b : Below B W W') (hg : g < B) : FAt W' g c p k := (b.block g hg).trans h
theorem FAt.kept {W W' : World} {g : Nat} {c p k : Int} {row : Option Nat} (h : FAt W g c p k) (b : W.grownBy W' row) (hr : row ≠ some g) : FAt W' g c p k := (b.block g h.lt (fun e => hr e.symm)).trans h
def putF (W : World) (s : Nat) (c p k : Int) : World := ((W.setCell ⟨s, 0, none⟩ (.int .i64 c)).setCell ⟨s, 1, none⟩ (.int .i64 p)).setCell ⟨s, 2, none⟩ (.int .i64 k)
theorem putF_grown (W : World) (s : Nat) (c p k : Int) : W.grownBy (putF W s c p k) (some s) :=
  grown_trans (grown_trans (grown_setCell W s 0 _) (grown_setCell _ s 1 _)) (grown_setCell _ s 2 _)
theorem putF_at {W : World} {s : Nat} {c0 p0 k0 : Int} (h : FAt W s c0 p0 k0) (c p k : Int) : FAt (putF W s c p k) s c p k := by
  have h1 := heap_setCell_at W s 0 _ _ _ (.int .i64 c) h
  have h2 := heap_setCell_at _ s 1 _ _ _ (.int .i64 p) h1
  have h3 := heap_setCell_at _ s 2 _ _ _ (.int .i64 k) h2
  exact h3
/-- the blocks of the document's Bracket: the answer's set and fault, the set that grows -/
structure RbAt (w W : World) (S : BitVec 256) : Prop where
  z : SetAt W w.heap.size 0
  f : FAt W (w.heap.size + 1) 0 0 0
  s : SetAt W (w.heap.size + 1 + 1) S
  b : Below w.heap.size w W
section
variable {w W W' : World} {S : BitVec 256}
theorem RbAt.below (h : RbAt w W S) (b : Below W.heap.size W W') : RbAt w W' S := ⟨h.z.below b h.z.lt, h.f.below b h.f.lt, h.s.below b h.s.lt, h.b.trans (b.mono h.b.size)⟩
theorem RbAt.alloc (h : RbAt w W S) (o : Obj) : RbAt w (W.alloc o) S := h.below ((Below.refl _ _).alloc (Nat.le_refl _) _)
theorem RbAt.drew (h : RbAt w W S) : RbAt w W.drew S := h.below (Below.refl _ _).drew
theorem RbAt.put (h : RbAt w W S) (T : BitVec 256) : RbAt w (put4 W (w.heap.size + 1 + 1) T) T := by
  have g := put4_grown W (w.heap.size + 1 + 1) T
  exact ⟨h.z.kept g (by intro e; have := Option.some.inj e; omega), h.f.kept g (by intro e; have := Option.some.inj e; omega), put4_at T h.s, h.b.grown g h.b.size (fun k hk => by have := Option.some.inj hk; omega)⟩
theorem RbAt.fin (h : RbAt w W S) (T : BitVec 256) (c p k : Int) : SetAt (putF (put4 W w.heap.size T) (w.heap.size + 1) c p k) w.heap.size T ∧ FAt (putF (put4 W w.heap.size T) (w.heap.size + 1) c p k) (w.heap.size + 1) c p k ∧ Below w.heap.size w (putF (put4 W w.heap.size T) (w.heap.size + 1) c p k) := by
  have g := put4_grown W w.heap.size T
  have g2 := putF_grown (put4 W w.heap.size T) (w.heap.size + 1) c p k
  have b1 := h.b.grown g h.b.size (fun k hk => by have := Option.some.inj hk; omega)
  exact ⟨(put4_at T h.z).kept g2 (by intro e; have := Option.some.inj e; omega), putF_at (h.f.kept g (by intro e; have := Option.some.inj e; omega)) c p k, b1.grown g2 b1.size (fun k hk => by have := Option.some.inj hk; omega)⟩
theorem rb_start (w : World) : RbAt w (((w.alloc (.cells #[.int .u64 0, .int .u64 0, .int .u64 0, .int .u64 0] 68)).alloc (.cells #[.int .i64 0, .int .i64 0, .int .i64 0] 38)).alloc (.cells #[.int .u64 0, .int .u64 0, .int .u64 0, .int .u64 0] 68)) 0 := by
  have h1 := setat_alloc w
  have b1 : Below (w.alloc (.cells #[.int .u64 0, .int .u64 0, .int .u64 0, .int .u64 0] 68)).heap.size _ _ := (Below.refl _ (w.alloc (.cells #[.int .u64 0, .int .u64 0, .int .u64 0, .int .u64 0] 68))).alloc (Nat.le_refl _) (.cells #[.int .i64 0, .int .i64 0, .int .i64 0] 38)
  have h2 : FAt ((w.alloc (.cells #[.int .u64 0, .int .u64 0, .int .u64 0, .int .u64 0] 68)).alloc (.cells #[.int .i64 0, .int .i64 0, .int .i64 0] 38)) (w.heap.size + 1) 0 0 0 := by
    have := heap_alloc_new (w.alloc (.cells #[.int .u64 0, .int .u64 0, .int .u64 0, .int .u64 0] 68)) (.cells #[.int .i64 0, .int .i64 0, .int .i64 0] 38)
    rw [show (w.alloc (.cells #[.int .u64 0, .int .u64 0, .int .u64 0, .int .u64 0] 68)).heap.size = w.heap.size + 1 by simp] at this
    exact this
  have b2 := (Below.refl _ ((w.alloc (.cells #[.int .u64 0, .int .u64 0, .int .u64 0, .int .u64 0] 68)).alloc (.cells #[.int .i64 0, .int .i64 0, .int .i64 0] 38))).alloc (Nat.le_refl _) (.cells #[.int .u64 0, .int .u64 0, .int .u64 0, .int .u64 0] 68)
  have h3 := setat_alloc ((w.alloc (.cells #[.int .u64 0, .int .u64 0, .int .u64 0, .int .u64 0] 68)).alloc (.cells #[.int .i64 0, .int .i64 0, .int .i64 0] 38))
  rw [show ((w.alloc (.cells #[.int .u64 0, .int .u64 0, .int .u64 0, .int .u64 0] 68)).alloc (.cells #[.int .i64 0, .int .i64 0, .int .i64 0] 38)).heap.size = w.heap.size + 1 + 1 by simp] at h3
  exact ⟨(h1.below b1 h1.lt).below b2 (h1.below b1 h1.lt).lt, h2.below b2 h2.lt, h3, (((Below.refl _ _).alloc (Nat.le_refl _) _).alloc (by simp) _).alloc (by simp; omega) _⟩
theorem RbAt.cells (h : RbAt w W S) : W.cell? ⟨w.heap.size, 0, none⟩ = some (.int .u64 0) ∧ W.cell? ⟨w.heap.size, 1, none⟩ = some (.int .u64 0) ∧ W.cell? ⟨w.heap.size, 2, none⟩ = some (.int .u64 0) ∧ W.cell? ⟨w.heap.size, 3, none⟩ = some (.int .u64 0) ∧
    W.frozen? ⟨w.heap.size, 0, none⟩ = false ∧ W.frozen? ⟨w.heap.size, 1, none⟩ = false ∧ W.frozen? ⟨w.heap.size, 2, none⟩ = false ∧ W.frozen? ⟨w.heap.size, 3, none⟩ = false ∧
    W.cell? ⟨w.heap.size + 1, 0, none⟩ = some (.int .i64 0) ∧ W.cell? ⟨w.heap.size + 1, 1, none⟩ = some (.int .i64 0) ∧ W.cell? ⟨w.heap.size + 1, 2, none⟩ = some (.int .i64 0) ∧
    W.frozen? ⟨w.heap.size + 1, 0, none⟩ = false ∧ W.frozen? ⟨w.heap.size + 1, 1, none⟩ = false ∧ W.frozen? ⟨w.heap.size + 1, 2, none⟩ = false ∧
    W.cell? ⟨w.heap.size + 1 + 1, 0, none⟩ = some (.int .u64 (wd S 0)) ∧ W.cell? ⟨w.heap.size + 1 + 1, 1, none⟩ = some (.int .u64 (wd S 1)) ∧ W.cell? ⟨w.heap.size + 1 + 1, 2, none⟩ = some (.int .u64 (wd S 2)) ∧ W.cell? ⟨w.heap.size + 1 + 1, 3, none⟩ = some (.int .u64 (wd S 3)) ∧
    W.frozen? ⟨w.heap.size + 1 + 1, 0, none⟩ = false ∧ W.frozen? ⟨w.heap.size + 1 + 1, 1, none⟩ = false ∧ W.frozen? ⟨w.heap.size + 1 + 1, 2, none⟩ = false ∧ W.frozen? ⟨w.heap.size + 1 + 1, 3, none⟩ = false ∧ RbAt w W S := by
  obtain ⟨a1, a2, a3, a4, a5, a6, a7, a8⟩ := h.z.cells
  obtain ⟨b1, b2, b3, b4, b5, b6⟩ := h.f.cells
  obtain ⟨d1, d2, d3, d4, d5, d6, d7, d8⟩ := h.s.cells
  exact ⟨a1, a2, a3, a4, a5, a6, a7, a8, b1, b2, b3, b4, b5, b6, d1, d2, d3, d4, d5, d6, d7, d8, h⟩
end
/-- what the document's Bracket answers -/
def RBr (p : Nat) (o : Option (BitVec 256 × Nat)) (e : Ending) : Prop := match o with
  | some q => e = .returned (.tuple #[setV q.1, .int .i64 ((p + q.2 : Nat) : Int), .agg #[.int .i64 0, .int .i64 0, .int .i64 0]])
  | none => ∃ c ps : Int, c ≠ 0 ∧ e = .returned (.tuple #[setV 0, .int .i64 0, .agg #[.int .i64 c, .int .i64 ps, .int .i64 2]])
theorem item_set {c : UInt8} {t : List UInt8} {x : It} (h : itemS c t = some x) (ho : x.one = true) : x.s = bit x.b.toNat := by
  unfold itemS at h
  split at h
  · simp at h
  · split at h
    · split at h
      · simp at h
      · split at h
        · simp at h
        · simp only [Option.some.injEq] at h; subst h; simp at ho
    · split at h
      · split at h
        · simp at h
        · simp only [Option.some.injEq] at h; subst h; rfl
      · simp only [Option.some.injEq] at h; subst h; rfl
theorem rg_plain {l : List UInt8} {n : Nat} {x : It} (h : l.length ≤ n + 1 ∨ (∃ c t, l.drop n = c :: t ∧ c ≠ 45) ∨ ∃ c t, l.drop n = c :: 93 :: t) : rangedS x (l.drop n) = some (x.s, 0) := by
  unfold rangedS
  split
  · rename_i h1
    rcases h with h | ⟨c, t, e, hc⟩ | ⟨c, t, e⟩
    · split
      · rename_i a d u hh
        have := congrArg List.length hh
        simp at this; omega
      · rfl
    · rw [e] at h1
      exact absurd (by simpa using h1.2) hc
    · rw [e]; simp
  · rfl
theorem rg_range {l : List UInt8} {n : Nat} {x : It} {d : UInt8} {v : List UInt8} (ho : x.one = true) (h : l.drop n = 45 :: d :: v) (hd : d ≠ 93) : rangedS x (l.drop n) = match itemS d v with | none => none | some y => if y.one = false then none else if y.b < x.b then none else some (rangeS x.b.toNat y.b.toNat, y.k + 2) := by
  unfold rangedS
  rw [h, if_pos ⟨ho, rfl⟩]
  simp only [if_neg hd]
  rfl
/-- behind the sign that turns a bracket -/
def TurnS (l : List UInt8) (p q : Nat) (tn : Bool) : Prop := p ≤ q ∧ brS (l.drop p) = (readS true 0 (l.drop q)).map fun R => (if tn then ~~~ R.1 else R.1, q - p + R.2)
theorem turn_off {l : List UInt8} {p : Nat} (h : brS (l.drop p) = readS true 0 (l.drop p)) : TurnS l p p false := by
  refine ⟨Nat.le_refl _, ?_⟩
  rw [h]
  cases readS true 0 (l.drop p) <;> simp
theorem turn_on {l : List UInt8} {p : Nat} (h : brS (l.drop p) = (readS true 0 (l.drop (p + 1))).map fun R => (~~~ R.1, R.2 + 1)) : TurnS l p (p + 1) true := by
  refine ⟨by omega, ?_⟩
  rw [h]
  cases readS true 0 (l.drop (p + 1)) <;> simp [Nat.add_comm]
theorem turn_none {l : List UInt8} {p q : Nat} {tn : Bool} (h : TurnS l p q tn) (hr : readS true 0 (l.drop q) = none) : brS (l.drop p) = none := by
  rw [h.2, hr]; rfl
theorem turn_some {l : List UInt8} {p q n : Nat} {tn : Bool} {S : BitVec 256} (h : TurnS l p q tn) (hr : readS true 0 (l.drop q) = some (S, n)) : brS (l.drop p) = some (if tn then ~~~ S else S, q - p + n) := by
  rw [h.2, hr]; rfl
theorem br_turn (l : List UInt8) (p : Nat) : (∃ c u, l.drop p = c :: u ∧ (c = 94 ∨ c = 33) ∧ brS (l.drop p) = (readS true 0 (l.drop (p + 1))).map fun R => (~~~ R.1, R.2 + 1)) ∨ ((∀ c u, l.drop p = c :: u → c ≠ 94 ∧ c ≠ 33) ∧ brS (l.drop p) = readS true 0 (l.drop p)) := by
  cases hd : l.drop p with
  | nil => exact .inr ⟨fun c u h => by simp at h, by unfold brS; simp⟩
  | cons c u =>
    by_cases h : c = 94 ∨ c = 33
    · refine .inl ⟨c, u, rfl, h, ?_⟩
      unfold brS
      rw [if_pos (by simpa using h), List.tail_cons, (drop_lt c u hd).2.2]
    · refine .inr ⟨fun c' u' h' => ?_, ?_⟩
      · injection h' with e1 e2; subst e1; exact ⟨fun e => h (.inl e), fun e => h (.inr e)⟩
      · unfold brS; rw [if_neg (by simpa using h)]
set_option maxRecDepth 100000 in
set_option maxHeartbeats 40000000 in
theorem rbracket_any (w : World) (a : Option Addr) (m cap p : Nat) (l : List UInt8) (hb : HasB w a l) (hm : l.length = m) (ms : m ≤ cap) (cs : cap ≤ 9223372036854775807) (mb : m ≤ 256) (hp : p ≤ m) :
    Calls Tryd.prog 35 #[.slice a m cap, .int .i64 p, .int .i64 2] w fun e w' => RBr p (brS (l.drop p)) e ∧ Below w.heap.size w w' := by
  have i1 : ¬ (p : Int) < 0 := by omega
  have i2 : ¬ (m : Int) < (p : Int) := by omega
  have HBW := Lib.hid hb
  have HM := Lib.hid hm
  have H0 := Lib.hid (rb_start w)
  have HIT := Lib.hid (fun (W : World) (i : Nat) (c : UInt8) (t : List UInt8) (hd : l.drop i = c :: t) (hW : Below w.heap.size w W) => ritem_any W a m cap i l c t (hb.below hW) hm ms cs mb hd)
  have HTW := Lib.hid (br_turn l p)
  clear hb hm
  go_enter Tryd.func35, Tryd.ntmps35
  go_upto_region 3 with fail
  go_cut [9, 10, 11] from 9 to 46 (fun s i t wx => s = .pointer (some ⟨w.heap.size + 1 + 1, 0, none⟩) ∧ i = .int .i64 p ∧ t = .bool false ∧ RbAt w wx 0)
  case first =>
    go_wp2_with fail
    go_meet
    case rel => exact ⟨rfl, rfl, rfl, H0.out⟩
  case rest =>
    obtain ⟨rfl, rfl, rfl, hr⟩ := hcut
    have H1 := Lib.hid hr
    clear hr H0
    go_step
    go_step
    go_cut [10, 11] from 10 to 69 (fun i t wx => ∃ (q : Nat) (tn : Bool), i = .int .i64 q ∧ t = .bool tn ∧ q ≤ m ∧ RbAt w wx 0 ∧ TurnS l p q tn)
    case first =>
      rcases HTW.out with ⟨c, u, hd, hc, hbr⟩ | ⟨hne, hbr⟩
      · have hpl := (drop_lt c u hd).1
        obtain ⟨b, off, rfl, hlt, hx⟩ := hasB_at HBW.out p hpl
        have hpm : p < m := by rw [HM.out] at hpl; exact hpl
        have c0 : wc.cell? ⟨b, off + p, none⟩ = some (.int .u8 (iv c)) := by
          rw [← drop_get hd hpl]
          exact (H1.out.b.cell (p := ⟨b, off + p, none⟩) hlt).trans (hx p hpl)
        have i3 : (p : Int) < (m : Int) := by omega
        have i4 : (0 : Int) ≤ (p : Int) := by omega
        have HT := Lib.hid (turn_on hbr)
        obtain ⟨z, hz⟩ : ∃ z : Nat, z = p + 1 := ⟨_, rfl⟩
        rw [← hz] at HT
        have hzI : (p : Int) + 1 = (z : Int) := by omega
        have hzm : z ≤ m := by omega
        clear hd hbr hx hz hlt hpl HIT
        rcases hc with rfl | rfl
        · rw [show iv 94 = 94 from rfl] at c0
          go_wp2_with fail
          go_meet
          case rel => exact ⟨z, true, rfl, rfl, hzm, H1.out, HT.out⟩
        · rw [show iv 33 = 33 from rfl] at c0
          go_wp2_with fail
          go_meet
          case rel => exact ⟨z, true, rfl, rfl, hzm, H1.out, HT.out⟩
      · have HT := Lib.hid (turn_off hbr)
        by_cases hpm : p < m
        · obtain ⟨c, u, hd⟩ := drop_some (l := l) (q := p) (by rw [HM.out]; exact hpm)
          have hpl := (drop_lt c u hd).1
          obtain ⟨b, off, rfl, hlt, hx⟩ := hasB_at HBW.out p hpl
          have c0 : wc.cell? ⟨b, off + p, none⟩ = some (.int .u8 (iv c)) := by
            rw [← drop_get hd hpl]
            exact (H1.out.b.cell (p := ⟨b, off + p, none⟩) hlt).trans (hx p hpl)
          have i3 : (p : Int) < (m : Int) := by omega
          have i4 : (0 : Int) ≤ (p : Int) := by omega
          have x1 : (iv c == 94) = false := by simpa using (fun e => (hne c u hd).1 (iv_inj (b := 94) e) : ¬ iv c = 94)
          have x2 : (iv c == 33) = false := by simpa using (fun e => (hne c u hd).2 (iv_inj (b := 33) e) : ¬ iv c = 33)
          clear hd hbr hx hlt hpl HIT hne
          go_wp2_with fail
          go_meet
          case rel => exact ⟨p, false, rfl, rfl, hp, H1.out, HT.out⟩
        · have i3 : ¬ (p : Int) < (m : Int) := by omega
          clear hbr HIT hne
          go_wp2_with fail
          go_meet
          case rel => exact ⟨p, false, rfl, rfl, hp, H1.out, HT.out⟩
    case rest =>
      obtain ⟨q, tn, rfl, rfl, hqm, hr, ht⟩ := hcut
      have H2 := Lib.hid hr
      have HT := Lib.hid ht
      clear hr ht H1 HTW
      go_wp2_with fail
      go_loopw [10, 12] (fun iv fv wr => ∃ (q' : Nat) (first : Bool) (S : BitVec 256), iv = .int .i64 q' ∧ fv = .bool first ∧ q ≤ q' ∧ q' ≤ m ∧ RbAt w wr S ∧ LeftS l q q' first S) (fun iv _ _ => m - (intOf iv).toNat)
      case atStart => exact ⟨q, true, 0, rfl, rfl, Nat.le_refl _, hqm, H2.out, left_start l q⟩
      case round =>
        obtain ⟨j, first, S, rfl, rfl, hqj, hjm, hr, hl⟩ := hrel
        have H3 := Lib.hid hr
        have HL := Lib.hid hl
        clear hr hl H2
        by_cases hjlt : j < m
        · have hJ : (j : Int) < (m : Int) := by omega
          have hJ0 : (0 : Int) ≤ (j : Int) := by omega
          obtain ⟨c, u, hd⟩ := drop_some (l := l) (q := j) (by rw [HM.out]; exact hjlt)
          have hjl := (drop_lt c u hd).1
          obtain ⟨b, off, rfl, hlt, hx⟩ := hasB_at HBW.out j hjl
          have HLT := Lib.hid hlt
          have HX := Lib.hid hx
          have c0 : wr.cell? ⟨b, off + j, none⟩ = some (.int .u8 (iv c)) := by
            rw [← drop_get hd hjl]
            exact (H3.out.b.cell (p := ⟨b, off + j, none⟩) hlt).trans (hx j hjl)
          have HD := Lib.hid hd
          clear hd hx hlt
          by_cases hend : first = false ∧ c = 93
          · obtain ⟨rfl, rfl⟩ := hend
            rw [show iv 93 = 93 from rfl] at c0
            clear HIT
            have hqj' := HT.out.1
            obtain ⟨z, hz⟩ : ∃ z : Nat, z = j + 1 := ⟨_, rfl⟩
            have hzI : (j : Int) + 1 = (z : Int) := by omega
            have hzm : z ≤ m := by omega
            have HSO := Lib.hid (turn_some HT.out (left_stop HL.out HD.out))
            have HZ := Lib.hid (show p + (q - p + (j - q + 1)) = z by omega)
            clear hz
            cases tn with
            | false =>
              obtain ⟨z0, z1, z2, z3, zf0, zf1, zf2, zf3, f0, f1, f2, ff0, ff1, ff2, s0, s1, s2, s3, sf0, sf1, sf2, sf3, -⟩ := H3.out.cells
              go_wp2_with fail
              have HF := Lib.hid (H3.out.fin S 0 0 0)
              change bodyPost _ _ _ _ _ (putF (put4 wr w.heap.size S) (w.heap.size + 1) 0 0 0)
              generalize putF (put4 wr w.heap.size S) (w.heap.size + 1) 0 0 0 = W9 at *
              obtain ⟨p0, p1, p2, p3, -⟩ := HF.out.1.cells
              obtain ⟨g0, g1, g2, -⟩ := HF.out.2.1.cells
              (try simp only [Exit.inBlock, Exit.then])
              refine bodyPost_ret (v := .tuple #[setV S, .int .i64 z, .agg #[.int .i64 0, .int .i64 0, .int .i64 0]]) ?hr ?hd ?hp
              case hd => rfl
              case hr => simp [results, Tryd.results35, go_sem, p0, p1, p2, p3, g0, g1, g2, setV, wv]
              case hp =>
                rw [HSO.out]
                exact ⟨by simp [RBr, HZ.out], HF.out.2.2⟩
            | true =>
              have HN := Lib.hid (rnot_any S wr)
              obtain ⟨N, hN⟩ : ∃ N, ~~~ S = N := ⟨_, rfl⟩
              have HSN := Lib.hid hN
              rw [hN] at HN
              clear hN
              unfold setV wv at HN
              obtain ⟨z0, z1, z2, z3, zf0, zf1, zf2, zf3, f0, f1, f2, ff0, ff1, ff2, s0, s1, s2, s3, sf0, sf1, sf2, sf3, -⟩ := H3.out.cells
              go_wp2_with fail
              refine HN.out.mono ?_; rintro e w5 ⟨rfl, b5⟩
              have H5 := Lib.hid (H3.out.below b5)
              clear b5
              clear z0 z1 z2 z3 zf0 zf1 zf2 zf3 f0 f1 f2 ff0 ff1 ff2 s0 s1 s2 s3 sf0 sf1 sf2 sf3
              obtain ⟨z0, z1, z2, z3, zf0, zf1, zf2, zf3, f0, f1, f2, ff0, ff1, ff2, s0, s1, s2, s3, sf0, sf1, sf2, sf3, -⟩ := H5.out.cells
              go_wp2_with fail
              have H6 := Lib.hid (H5.out.put N)
              have HF := Lib.hid (H6.out.fin N 0 0 0)
              change bodyPost _ _ _ _ _ (putF (put4 (put4 w5 (w.heap.size + 1 + 1) N) w.heap.size N) (w.heap.size + 1) 0 0 0)
              generalize putF (put4 (put4 w5 (w.heap.size + 1 + 1) N) w.heap.size N) (w.heap.size + 1) 0 0 0 = W9 at *
              obtain ⟨p0, p1, p2, p3, -⟩ := HF.out.1.cells
              obtain ⟨g0, g1, g2, -⟩ := HF.out.2.1.cells
              (try simp only [Exit.inBlock, Exit.then])
              refine bodyPost_ret (v := .tuple #[setV N, .int .i64 z, .agg #[.int .i64 0, .int .i64 0, .int .i64 0]]) ?hr ?hd ?hp
              case hd => rfl
              case hr => simp [results, Tryd.results35, go_sem, p0, p1, p2, p3, g0, g1, g2, setV, wv]
              case hp =>
                rw [HSO.out]
                exact ⟨by simp [RBr, HZ.out, HSN.out], HF.out.2.2⟩
          · have HNE := Lib.hid hend
            obtain ⟨n1, hn1⟩ : ∃ n1 : Nat, ∀ x, itemS c u = some x → n1 = j + 1 + x.k := by
              cases itemS c u with
              | none => exact ⟨0, fun x h => by cases h⟩
              | some x => exact ⟨j + 1 + x.k, fun y h => by cases h; rfl⟩
            have HN1 := Lib.hid hn1
            have HI := Lib.hid (HIT.out wr j c u HD.out H3.out.b)
            have hcc : (iv c == 93) = false ∨ (c = 93 ∧ first = true) := by
              by_cases e : c = 93
              · refine .inr ⟨e, ?_⟩
                cases first with
                | false => exact absurd ⟨rfl, e⟩ hend
                | true => rfl
              · exact .inl (by simpa using (fun e' => e (iv_inj (b := 93) e') : ¬ iv c = 93))
            clear hend hn1
            cases hit : itemS c u with
            | none =>
              have HIN := Lib.hid hit
              rw [hit] at HI
              clear hit
              have HRN := Lib.hid (show readS true 0 (l.drop q) = none from left_none HL.out (by rw [HD.out]; exact read_item_none HNE.out HIN.out))
              rcases hcc with hcc | ⟨rfl, rfl⟩
              all_goals
                (try rw [show iv 93 = 93 from rfl] at c0)
                go_wp2_with fail
              all_goals
                refine HI.out.mono ?_; rintro e w5 ⟨⟨S', ps, rfl⟩, b5⟩
                have H5 := Lib.hid (H3.out.below b5)
                clear b5 c0
                unfold setV wv
                have H6 := Lib.hid (H5.out.alloc (.cells #[.int .u64 (wd S' 0), .int .u64 (wd S' 1), .int .u64 (wd S' 2), .int .u64 (wd S' 3)] 68))
                have HNN := Lib.hid (turn_none HT.out HRN.out)
                go_wp2_with fail
                refine (rf_any 8 ps 2 _).mono ?_; rintro e w8 ⟨rfl, b8⟩
                have H8 := Lib.hid (H6.out.below b8)
                clear b8
                obtain ⟨z0, z1, z2, z3, zf0, zf1, zf2, zf3, f0, f1, f2, ff0, ff1, ff2, s0, s1, s2, s3, sf0, sf1, sf2, sf3, -⟩ := H8.out.cells
                go_wp2_with fail
                have HF := Lib.hid (H8.out.fin 0 8 ps 2)
                change bodyPost _ _ _ _ _ (putF (put4 w8 w.heap.size 0) (w.heap.size + 1) 8 ps 2)
                generalize putF (put4 w8 w.heap.size 0) (w.heap.size + 1) 8 ps 2 = W9 at *
                obtain ⟨p0, p1, p2, p3, -⟩ := HF.out.1.cells
                obtain ⟨g0, g1, g2, -⟩ := HF.out.2.1.cells
                (try simp only [Exit.inBlock, Exit.then])
                refine bodyPost_ret (v := .tuple #[setV 0, .int .i64 0, .agg #[.int .i64 8, .int .i64 ps, .int .i64 2]]) ?hr ?hd ?hp
                case hd => rfl
                case hr => simp [results, Tryd.results35, go_sem, p0, p1, p2, p3, g0, g1, g2, setV, wv]
                case hp =>
                  rw [HNN.out]
                  exact ⟨⟨8, ps, by decide, rfl⟩, HF.out.2.2⟩
            | some x =>
              have HIX := Lib.hid hit
              have hk1 := item_k hit
              have hn1 := HN1.out x hit
              have hul := (drop_lt c u HD.out).2.1
              have hn1m : n1 ≤ m := by rw [HM.out] at hul; omega
              have hjn : j < n1 := by omega
              have HDN := Lib.hid (show u.drop x.k = l.drop n1 by rw [hn1, ← (drop_lt c u HD.out).2.2, List.drop_drop])
              have HMORE := Lib.hid (fun (T : BitVec 256) (n : Nat) (hr : rangedS x (l.drop n1) = some (T, n)) => (show LeftS l q (n1 + n) false (S ||| T) by
                have := left_more HL.out hqj HD.out HNE.out HIX.out (by rw [HDN.out]; exact hr)
                rw [show j + (x.k + 1) + n = n1 + n by omega] at this
                exact this))
              have HNONE := Lib.hid (fun (hr : rangedS x (l.drop n1) = none) => (show readS true 0 (l.drop q) = none from left_none HL.out (by rw [HD.out]; exact read_ranged_none HNE.out HIX.out (by rw [HDN.out]; exact hr))))
              rw [hit] at HI
              unfold RItem at HI
              simp only [] at HI
              rw [← hn1] at HI
              have HSET := Lib.hid (fun h => item_set HIX.out h)
              clear hit hk1 hn1 hul HN1 HDN
              obtain ⟨xo, xb, xs, xk⟩ := x
              cases xo with
              | false =>
                have HR0 := Lib.hid (HMORE.out xs 0 (by unfold rangedS; simp))
                simp only [Bool.false_eq_true, if_false] at HI
                clear HMORE HNONE HSET
                rcases hcc with hcc | ⟨rfl, rfl⟩
                all_goals
                  (try rw [show iv 93 = 93 from rfl] at c0)
                  go_wp2_with fail
                  refine HI.out.mono ?_; rintro e w5 ⟨rfl, b5⟩
                  have H5 := Lib.hid (H3.out.below b5)
                  clear b5 c0
                  have H6 := Lib.hid (H5.out.alloc (.cells #[.int .u64 (wd xs 0), .int .u64 (wd xs 1), .int .u64 (wd xs 2), .int .u64 (wd xs 3)] 68))
                  have HV := Lib.hid (show SetAt (w5.alloc (.cells #[.int .u64 (wd xs 0), .int .u64 (wd xs 1), .int .u64 (wd xs 2), .int .u64 (wd xs 3)] 68)) w5.heap.size xs from heap_alloc_new _ _)
                  unfold setV wv
                  go_upto_region 17 with fail
                  generalize w5.alloc (.cells #[.int .u64 (wd xs 0), .int .u64 (wd xs 1), .int .u64 (wd xs 2), .int .u64 (wd xs 3)] 68) = W6 at *
                  generalize w5.heap.size = V at *
                  have HO := Lib.hid (ror_any S xs W6)
                  obtain ⟨U, hU⟩ : ∃ U, S ||| xs = U := ⟨_, rfl⟩
                  rw [hU] at HO HR0
                  unfold setV wv at HO
                  clear hU
                  obtain ⟨z0, z1, z2, z3, zf0, zf1, zf2, zf3, f0, f1, f2, ff0, ff1, ff2, s0, s1, s2, s3, sf0, sf1, sf2, sf3, -⟩ := H6.out.cells
                  obtain ⟨v0, v1, v2, v3, -⟩ := HV.out.cells
                  go_wp2_with fail
                  refine HO.out.mono ?_; rintro e w7 ⟨rfl, b7⟩
                  have H7 := Lib.hid (H6.out.below b7)
                  clear b7 v0 v1 v2 v3
                  clear z0 z1 z2 z3 zf0 zf1 zf2 zf3 f0 f1 f2 ff0 ff1 ff2 s0 s1 s2 s3 sf0 sf1 sf2 sf3
                  obtain ⟨z0, z1, z2, z3, zf0, zf1, zf2, zf3, f0, f1, f2, ff0, ff1, ff2, s0, s1, s2, s3, sf0, sf1, sf2, sf3, -⟩ := H7.out.cells
                  go_wp2_with fail
                  have H8 := Lib.hid (H7.out.put U)
                  go_roundw
                  case rel => exact ⟨n1, false, U, rfl, rfl, by omega, by omega, H8.out, HR0.out⟩
                  case measure => simp [intOf]; omega
              | true =>
                have hxs := HSET.out rfl
                simp only [if_true] at HI
                simp only at hxs
                have HXS := Lib.hid hxs
                have hw8 : IntKind.u8.wrap (iv xb) = iv xb := by have h0 := iv_lo xb; have h1 := iv_hi xb; rw [IntKind.wrap_u8]; omega
                have hx0 : ¬ iv xb < 0 := by have := iv_lo xb; omega
                clear HSET hxs
                by_cases hpl : l.length ≤ n1 + 1 ∨ (∃ c t, l.drop n1 = c :: t ∧ c ≠ 45) ∨ ∃ c t, l.drop n1 = c :: 93 :: t
                · have HR0 := Lib.hid (HMORE.out xs 0 (rg_plain hpl))
                  have HAD := Lib.hid (fun W => radd_any S xb.toNat W (by have := xb.toNat_lt; omega))
                  obtain ⟨U, hU⟩ : ∃ U, S ||| bit xb.toNat = U := ⟨_, rfl⟩
                  rw [HXS.out, hU] at HR0
                  rw [hU] at HAD
                  unfold setV wv at HAD
                  change Hid (∀ W, Calls Tryd.prog 36 #[.agg #[.int .u64 (wd S 0), .int .u64 (wd S 1), .int .u64 (wd S 2), .int .u64 (wd S 3)], .int .u8 (iv xb)] W _) at HAD
                  clear HMORE HNONE hU HIT HXS
                  have hways : (¬ (n1 : Int) + 1 < (m : Int)) ∨ (∃ (d0 : Int) (k : Nat), (n1 : Int) + 1 = (k : Int) ∧ (k : Int) < (m : Int) ∧ (0 : Int) ≤ (k : Int) ∧ (0 : Int) ≤ (n1 : Int) ∧ (n1 : Int) < (m : Int) ∧ w.cell? ⟨b, off + n1, none⟩ = some (.int .u8 d0) ∧ ((d0 == 45) = false ∨ (d0 = 45 ∧ w.cell? ⟨b, off + k, none⟩ = some (.int .u8 93)))) := by
                    by_cases h1 : n1 + 1 < m
                    · refine .inr ⟨iv (l[n1]'(by rw [HM.out]; omega)), n1 + 1, by omega, by omega, by omega, by omega, by omega, HX.out n1 (by rw [HM.out]; omega), ?_⟩
                      have hl1 : n1 < l.length := by rw [HM.out]; omega
                      have hl2 : n1 + 1 < l.length := by rw [HM.out]; omega
                      have e := List.drop_eq_getElem_cons hl1
                      have e2 := List.drop_eq_getElem_cons hl2
                      rcases hpl with h | ⟨c', t', h, hc'⟩ | ⟨c', t', h⟩
                      · omega
                      · rw [e] at h; injection h with ha hb
                        rw [ha]
                        exact .inl (by simpa using (fun e => hc' (iv_inj (b := 45) e) : ¬ iv c' = 45))
                      · rw [e, e2] at h; injection h with ha hb; injection hb with hb hc
                        by_cases h45 : l[n1] = 45
                        · rw [h45]
                          refine .inr ⟨rfl, ?_⟩
                          have := HX.out (n1 + 1) hl2
                          rw [hb] at this; exact this
                        · exact .inl (by simpa using (fun e => h45 (iv_inj (b := 45) e) : ¬ iv l[n1] = 45))
                    · exact .inl (by omega)
                  clear hpl
                  rcases hcc with hcc | ⟨rfl, rfl⟩
                  all_goals
                    (try rw [show iv 93 = 93 from rfl] at c0)
                    go_wp2_with fail
                  all_goals
                    refine HI.out.mono ?_; rintro e w5 ⟨rfl, b5⟩
                    have H5 := Lib.hid (H3.out.below b5)
                    clear b5 c0
                    obtain ⟨Z, hZ⟩ : ∃ Z : BitVec 256, 0 = Z := ⟨_, rfl⟩
                    rw [hZ]
                    clear hZ
                    have H6 := Lib.hid (H5.out.alloc (.cells #[.int .u64 (wd Z 0), .int .u64 (wd Z 1), .int .u64 (wd Z 2), .int .u64 (wd Z 3)] 68))
                    unfold setV wv
                    go_upto_region 17 with fail
                    generalize w5.alloc (.cells #[.int .u64 (wd Z 0), .int .u64 (wd Z 1), .int .u64 (wd Z 2), .int .u64 (wd Z 3)] 68) = W6 at *
                    generalize w5.heap.size = V at *
                    have HB6 := Lib.hid H6.out.b
                    rcases hways with hk | ⟨d0, k, hk1, hk2, hk3, hk4, hk5, hc1, hd0 | ⟨rfl, hc2⟩⟩
                    · obtain ⟨z0, z1, z2, z3, zf0, zf1, zf2, zf3, f0, f1, f2, ff0, ff1, ff2, s0, s1, s2, s3, sf0, sf1, sf2, sf3, -⟩ := H6.out.cells
                      go_wp2_with fail
                      refine (HAD.out _).mono ?_; rintro e w7 ⟨rfl, b7⟩
                      have H7 := Lib.hid (H6.out.below b7)
                      clear b7
                      clear z0 z1 z2 z3 zf0 zf1 zf2 zf3 f0 f1 f2 ff0 ff1 ff2 s0 s1 s2 s3 sf0 sf1 sf2 sf3
                      obtain ⟨z0, z1, z2, z3, zf0, zf1, zf2, zf3, f0, f1, f2, ff0, ff1, ff2, s0, s1, s2, s3, sf0, sf1, sf2, sf3, -⟩ := H7.out.cells
                      go_wp2_with fail
                      have H8 := Lib.hid (H7.out.put U)
                      go_roundw
                      case rel => exact ⟨n1, false, U, rfl, rfl, by omega, by omega, H8.out, HR0.out⟩
                      case measure => simp [intOf]; omega
                    · have c1 : W6.cell? ⟨b, off + n1, none⟩ = _ := (HB6.out.cell (p := ⟨b, off + n1, none⟩) HLT.out).trans hc1
                      have hd1 : ¬ d0 = 45 := by simpa using hd0
                      have hd2 : (d0 != 45) = true := by simpa using hd0
                      clear hc1
                      obtain ⟨z0, z1, z2, z3, zf0, zf1, zf2, zf3, f0, f1, f2, ff0, ff1, ff2, s0, s1, s2, s3, sf0, sf1, sf2, sf3, -⟩ := H6.out.cells
                      go_wp2_with fail
                      refine (HAD.out _).mono ?_; rintro e w7 ⟨rfl, b7⟩
                      have H7 := Lib.hid (H6.out.below b7)
                      clear b7
                      clear z0 z1 z2 z3 zf0 zf1 zf2 zf3 f0 f1 f2 ff0 ff1 ff2 s0 s1 s2 s3 sf0 sf1 sf2 sf3
                      obtain ⟨z0, z1, z2, z3, zf0, zf1, zf2, zf3, f0, f1, f2, ff0, ff1, ff2, s0, s1, s2, s3, sf0, sf1, sf2, sf3, -⟩ := H7.out.cells
                      go_wp2_with fail
                      have H8 := Lib.hid (H7.out.put U)
                      go_roundw
                      case rel => exact ⟨n1, false, U, rfl, rfl, by omega, by omega, H8.out, HR0.out⟩
                      case measure => simp [intOf]; omega
                    · have c1 : W6.cell? ⟨b, off + n1, none⟩ = _ := (HB6.out.cell (p := ⟨b, off + n1, none⟩) HLT.out).trans hc1
                      have c2 : W6.cell? ⟨b, off + k, none⟩ = _ := (HB6.out.cell (p := ⟨b, off + k, none⟩) HLT.out).trans hc2
                      clear hc1 hc2
                      obtain ⟨z0, z1, z2, z3, zf0, zf1, zf2, zf3, f0, f1, f2, ff0, ff1, ff2, s0, s1, s2, s3, sf0, sf1, sf2, sf3, -⟩ := H6.out.cells
                      go_wp2_with fail
                      refine (HAD.out _).mono ?_; rintro e w7 ⟨rfl, b7⟩
                      have H7 := Lib.hid (H6.out.below b7)
                      clear b7
                      clear z0 z1 z2 z3 zf0 zf1 zf2 zf3 f0 f1 f2 ff0 ff1 ff2 s0 s1 s2 s3 sf0 sf1 sf2 sf3
                      obtain ⟨z0, z1, z2, z3, zf0, zf1, zf2, zf3, f0, f1, f2, ff0, ff1, ff2, s0, s1, s2, s3, sf0, sf1, sf2, sf3, -⟩ := H7.out.cells
                      go_wp2_with fail
                      have H8 := Lib.hid (H7.out.put U)
                      go_roundw
                      case rel => exact ⟨n1, false, U, rfl, rfl, by omega, by omega, H8.out, HR0.out⟩
                      case measure => simp [intOf]; omega
                · obtain ⟨d, v, hdv, hd93⟩ : ∃ d v, l.drop n1 = 45 :: d :: v ∧ d ≠ 93 := by
                    have h1 : n1 + 1 < l.length := by
                      rcases Nat.lt_or_ge (n1 + 1) l.length with h | h
                      · exact h
                      · exact absurd (.inl h) hpl
                    refine ⟨l[n1 + 1], l.drop (n1 + 1 + 1), ?_, fun e => hpl (.inr (.inr ⟨l[n1], l.drop (n1 + 1 + 1), ?_⟩))⟩
                    · rw [List.drop_eq_getElem_cons (show n1 < l.length by omega), List.drop_eq_getElem_cons h1]
                      congr 1
                      exact Decidable.byContradiction fun hne => hpl (.inr (.inl ⟨_, _, List.drop_eq_getElem_cons (show n1 < l.length by omega), hne⟩))
                    · rw [List.drop_eq_getElem_cons (show n1 < l.length by omega), List.drop_eq_getElem_cons h1, e]
                  obtain ⟨k, hk⟩ : ∃ k : Nat, k = n1 + 1 := ⟨_, rfl⟩
                  have hd2 := (drop_lt _ _ hdv).2.2
                  rw [← hk] at hd2
                  have hkl := (drop_lt _ _ hd2).1
                  have hkm : k < m := by rw [HM.out] at hkl; exact hkl
                  have hk1 : (n1 : Int) + 1 = (k : Int) := by omega
                  have hk2 : (k : Int) < (m : Int) := by omega
                  have hk3 : (0 : Int) ≤ (k : Int) := by omega
                  have hk4 : (0 : Int) ≤ (n1 : Int) := by omega
                  have hk5 : (n1 : Int) < (m : Int) := by omega
                  have HC1 := Lib.hid (show w.cell? ⟨b, off + n1, none⟩ = some (.int .u8 45) by
                    have := HX.out n1 (drop_lt _ _ hdv).1
                    rw [drop_get hdv (drop_lt _ _ hdv).1] at this; exact this)
                  have HC2 := Lib.hid (show w.cell? ⟨b, off + k, none⟩ = some (.int .u8 (iv d)) by
                    have := HX.out k hkl
                    rw [drop_get hd2 hkl] at this; exact this)
                  have hd3 : (iv d == 93) = false := by simpa using (fun e => hd93 (iv_inj (b := 93) e) : ¬ iv d = 93)
                  have HRG := Lib.hid (rg_range (x := ⟨true, xb, xs, xk⟩) rfl hdv hd93)
                  have HI2 := Lib.hid (fun W hW => HIT.out W k d v hd2 hW)
                  have HK := Lib.hid hk
                  have hn2 : ∃ n2 : Nat, ∀ y, itemS d v = some y → n2 = k + 1 + y.k ∧ n2 ≤ m ∧ n2 = n1 + (y.k + 2) := by
                    cases hiy : itemS d v with
                    | none => exact ⟨0, fun y h => by cases h⟩
                    | some y => exact ⟨k + 1 + y.k, fun y' h => by
                        cases h
                        have := item_k hiy
                        have := (drop_lt _ _ hd2).2.1
                        rw [HM.out] at this
                        omega⟩
                  obtain ⟨n2, hn2⟩ := hn2
                  have HN2 := Lib.hid hn2
                  clear hpl hdv hd93 hd2 hkl hk hn2 HIT
                  rcases hcc with hcc | ⟨rfl, rfl⟩
                  all_goals
                    (try rw [show iv 93 = 93 from rfl] at c0)
                    go_wp2_with fail
                  all_goals
                    refine HI.out.mono ?_; rintro e w5 ⟨rfl, b5⟩
                    have H5 := Lib.hid (H3.out.below b5)
                    clear b5 c0
                    obtain ⟨Z, hZ⟩ : ∃ Z : BitVec 256, 0 = Z := ⟨_, rfl⟩
                    rw [hZ]
                    have HZ := Lib.hid hZ
                    clear hZ
                    have H6 := Lib.hid (H5.out.alloc (.cells #[.int .u64 (wd Z 0), .int .u64 (wd Z 1), .int .u64 (wd Z 2), .int .u64 (wd Z 3)] 68))
                    unfold setV wv
                    go_upto_region 17 with fail
                    generalize w5.alloc (.cells #[.int .u64 (wd Z 0), .int .u64 (wd Z 1), .int .u64 (wd Z 2), .int .u64 (wd Z 3)] 68) = W6 at *
                    generalize w5.heap.size = V at *
                    have c1 : W6.cell? ⟨b, off + n1, none⟩ = some (.int .u8 45) := (H6.out.b.cell (p := ⟨b, off + n1, none⟩) HLT.out).trans HC1.out
                    have c2 : W6.cell? ⟨b, off + k, none⟩ = some (.int .u8 (iv d)) := (H6.out.b.cell (p := ⟨b, off + k, none⟩) HLT.out).trans HC2.out
                    have HI3 := Lib.hid (HI2.out W6 H6.out.b)
                    go_wp2_with fail
                    cases hiy : itemS d v with
                    | none =>
                      have HRN := Lib.hid (HNONE.out (by rw [HRG.out, hiy]))
                      rw [hiy] at HI3
                      clear hiy
                      refine HI3.out.mono ?_; rintro e w7 ⟨⟨S', ps, rfl⟩, b7⟩
                      have H7 := Lib.hid ((H6.out.below b7).alloc (.cells #[.int .u64 (wd S' 0), .int .u64 (wd S' 1), .int .u64 (wd S' 2), .int .u64 (wd S' 3)] 68))
                      clear b7 c1 c2
                      unfold setV wv
                      have HNN := Lib.hid (turn_none HT.out HRN.out)
                      go_wp2_with fail
                      refine (rf_any 8 ps 2 _).mono ?_; rintro e w8 ⟨rfl, b8⟩
                      have H8 := Lib.hid (H7.out.below b8)
                      clear b8
                      obtain ⟨z0, z1, z2, z3, zf0, zf1, zf2, zf3, f0, f1, f2, ff0, ff1, ff2, s0, s1, s2, s3, sf0, sf1, sf2, sf3, -⟩ := H8.out.cells
                      go_wp2_with fail
                      have HF := Lib.hid (H8.out.fin 0 8 ps 2)
                      change bodyPost _ _ _ _ _ (putF (put4 w8 w.heap.size 0) (w.heap.size + 1) 8 ps 2)
                      generalize putF (put4 w8 w.heap.size 0) (w.heap.size + 1) 8 ps 2 = W9 at *
                      obtain ⟨p0, p1, p2, p3, -⟩ := HF.out.1.cells
                      obtain ⟨g0, g1, g2, -⟩ := HF.out.2.1.cells
                      (try simp only [Exit.inBlock, Exit.then])
                      refine bodyPost_ret (v := .tuple #[setV 0, .int .i64 0, .agg #[.int .i64 8, .int .i64 ps, .int .i64 2]]) ?hr ?hd ?hp
                      case hd => rfl
                      case hr => simp [results, Tryd.results35, go_sem, p0, p1, p2, p3, g0, g1, g2, setV, wv]
                      case hp =>
                        rw [HNN.out]
                        exact ⟨⟨8, ps, by decide, rfl⟩, HF.out.2.2⟩
                    | some y =>
                      obtain ⟨hy1, hy2, hy3⟩ := HN2.out y hiy
                      have HY := Lib.hid hiy
                      rw [hiy] at HI3
                      unfold RItem at HI3
                      simp only [] at HI3
                      rw [← hy1] at HI3
                      have HRG2 := HRG.out
                      rw [hiy] at HRG2
                      simp only [] at HRG2
                      have hn2j : j < n2 := by omega
                      clear hiy HRG hy1
                      obtain ⟨yo, yb, ys, yk⟩ := y
                      cases yo with
                      | false =>
                        have HRN := Lib.hid (HNONE.out (by rw [HRG2]; simp))
                        simp only [Bool.false_eq_true, if_false] at HI3
                        clear HRG2
                        refine HI3.out.mono ?_; rintro e w7 ⟨rfl, b7⟩
                        have H7 := Lib.hid ((H6.out.below b7).alloc (.cells #[.int .u64 (wd ys 0), .int .u64 (wd ys 1), .int .u64 (wd ys 2), .int .u64 (wd ys 3)] 68))
                        clear b7 c1 c2
                        unfold setV wv
                        have HNN := Lib.hid (turn_none HT.out HRN.out)
                        go_wp2_with fail
                        refine (rf_any 8 (k : Int) 2 _).mono ?_; rintro e w8 ⟨rfl, b8⟩
                        have H8 := Lib.hid (H7.out.below b8)
                        clear b8
                        obtain ⟨z0, z1, z2, z3, zf0, zf1, zf2, zf3, f0, f1, f2, ff0, ff1, ff2, s0, s1, s2, s3, sf0, sf1, sf2, sf3, -⟩ := H8.out.cells
                        go_wp2_with fail
                        have HF := Lib.hid (H8.out.fin 0 8 (k : Int) 2)
                        change bodyPost _ _ _ _ _ (putF (put4 w8 w.heap.size 0) (w.heap.size + 1) 8 (k : Int) 2)
                        generalize putF (put4 w8 w.heap.size 0) (w.heap.size + 1) 8 (k : Int) 2 = W9 at *
                        obtain ⟨p0, p1, p2, p3, -⟩ := HF.out.1.cells
                        obtain ⟨g0, g1, g2, -⟩ := HF.out.2.1.cells
                        (try simp only [Exit.inBlock, Exit.then])
                        refine bodyPost_ret (v := .tuple #[setV 0, .int .i64 0, .agg #[.int .i64 8, .int .i64 (k : Int), .int .i64 2]]) ?hr ?hd ?hp
                        case hd => rfl
                        case hr => simp [results, Tryd.results35, go_sem, p0, p1, p2, p3, g0, g1, g2, setV, wv]
                        case hp =>
                          rw [HNN.out]
                          exact ⟨⟨8, (k : Int), by decide, rfl⟩, HF.out.2.2⟩
                      | true =>
                        have hy0 : ¬ iv yb < 0 := by have := iv_lo yb; omega
                        have hwy8 : IntKind.u8.wrap (iv yb) = iv yb := by have h0 := iv_lo yb; have h1 := iv_hi yb; rw [IntKind.wrap_u8]; omega
                        simp only [if_true] at HI3
                        rw [HZ.out] at HI3
                        by_cases hlt2 : yb < xb
                        · have HRN := Lib.hid (HNONE.out (by rw [HRG2]; simp [hlt2]))
                          have hgt : iv yb < iv xb := by unfold iv; have := UInt8.lt_iff_toNat_lt.1 hlt2; omega
                          clear HRG2
                          refine HI3.out.mono ?_; rintro e w7 ⟨rfl, b7⟩
                          have H7 := Lib.hid ((H6.out.below b7).alloc (.cells #[.int .u64 (wd Z 0), .int .u64 (wd Z 1), .int .u64 (wd Z 2), .int .u64 (wd Z 3)] 68))
                          clear b7 c1 c2
                          unfold setV wv
                          have HNN := Lib.hid (turn_none HT.out HRN.out)
                          go_wp2_with fail
                          refine (rf_any 7 (j : Int) 2 _).mono ?_; rintro e w8 ⟨rfl, b8⟩
                          have H8 := Lib.hid (H7.out.below b8)
                          clear b8
                          obtain ⟨z0, z1, z2, z3, zf0, zf1, zf2, zf3, f0, f1, f2, ff0, ff1, ff2, s0, s1, s2, s3, sf0, sf1, sf2, sf3, -⟩ := H8.out.cells
                          go_wp2_with fail
                          have HF := Lib.hid (H8.out.fin 0 7 (j : Int) 2)
                          change bodyPost _ _ _ _ _ (putF (put4 w8 w.heap.size 0) (w.heap.size + 1) 7 (j : Int) 2)
                          generalize putF (put4 w8 w.heap.size 0) (w.heap.size + 1) 7 (j : Int) 2 = W9 at *
                          obtain ⟨p0, p1, p2, p3, -⟩ := HF.out.1.cells
                          obtain ⟨g0, g1, g2, -⟩ := HF.out.2.1.cells
                          (try simp only [Exit.inBlock, Exit.then])
                          refine bodyPost_ret (v := .tuple #[setV 0, .int .i64 0, .agg #[.int .i64 7, .int .i64 (j : Int), .int .i64 2]]) ?hr ?hd ?hp
                          case hd => rfl
                          case hr => simp [results, Tryd.results35, go_sem, p0, p1, p2, p3, g0, g1, g2, setV, wv]
                          case hp =>
                            rw [HNN.out]
                            exact ⟨⟨7, (j : Int), by decide, rfl⟩, HF.out.2.2⟩
                        · have hgt : ¬ iv yb < iv xb := by
                            intro h
                            refine hlt2 (UInt8.lt_iff_toNat_lt.2 ?_)
                            unfold iv at h; omega
                          have HR0 := Lib.hid (HMORE.out (rangeS xb.toNat yb.toNat) (yk + 2) (by rw [HRG2]; simp [hlt2]))
                          have HRR := Lib.hid (fun W => rrange_any xb.toNat yb.toNat W (by have := xb.toNat_lt; omega) (by have := yb.toNat_lt; omega))
                          have HRO := Lib.hid (fun W => ror_any S (rangeS xb.toNat yb.toNat) W)
                          change Hid (∀ W, Calls Tryd.prog 56 #[.int .u8 (iv xb), .int .u8 (iv yb)] W _) at HRR
                          rw [← hy3] at HR0
                          clear hy3
                          generalize rangeS xb.toNat yb.toNat = R at *
                          obtain ⟨U, hU⟩ : ∃ U, S ||| R = U := ⟨_, rfl⟩
                          rw [hU] at HR0 HRO
                          clear HRG2 hlt2 hU
                          refine HI3.out.mono ?_; rintro e w7 ⟨rfl, b7⟩
                          have H7 := Lib.hid ((H6.out.below b7).alloc (.cells #[.int .u64 (wd Z 0), .int .u64 (wd Z 1), .int .u64 (wd Z 2), .int .u64 (wd Z 3)] 68))
                          clear b7 c1 c2
                          unfold setV wv at *
                          go_upto_region 31 with fail
                          generalize w7.alloc (.cells #[.int .u64 (wd Z 0), .int .u64 (wd Z 1), .int .u64 (wd Z 2), .int .u64 (wd Z 3)] 68) = W7 at *
                          have H7d := Lib.hid H7.out.drew
                          obtain ⟨s0, s1, s2, s3, -⟩ := H7d.out.s.cells
                          go_region_law (first
                            | (go_simp; go_at_call_of 55 (Value.agg #[.int .u64 (wd S 0), .int .u64 (wd S 1), .int .u64 (wd S 2), .int .u64 (wd S 3)]); refine (HRO.out _).mono ?_; rintro e w9 ⟨rfl, b9⟩; have H9 := Lib.hid (H8.out.below b9); clear b9; obtain ⟨s0, s1, s2, s3, sf0, sf1, sf2, sf3⟩ := H9.out.s.cells)
                            | (go_simp; go_at_call_of 56 (Value.int .u8 (iv xb)); refine (HRR.out _).mono ?_; rintro e w8 ⟨rfl, b8⟩; have H8 := Lib.hid (H7d.out.below b8); clear b8; obtain ⟨s0, s1, s2, s3, -⟩ := H8.out.s.cells))
                          all_goals
                            go_wp2_with fail
                            have H10 := Lib.hid (H9.out.put U)
                            go_roundw
                            case rel => exact ⟨n2, false, U, rfl, rfl, by omega, by omega, H10.out, HR0.out⟩
                            case measure => simp [intOf]; omega
        · have hJ : ¬ (j : Int) < (m : Int) := by omega
          have HRN := Lib.hid (show readS true 0 (l.drop q) = none from left_none HL.out (by rw [List.drop_eq_nil_of_le (by rw [HM.out]; omega), readS]))
          clear HIT
          have HNN := Lib.hid (turn_none HT.out HRN.out)
          go_wp2_with fail
          refine (rf_any 8 (m : Int) 2 _).mono ?_; rintro e w8 ⟨rfl, b8⟩
          have H8 := Lib.hid (H3.out.below b8)
          clear b8
          obtain ⟨z0, z1, z2, z3, zf0, zf1, zf2, zf3, f0, f1, f2, ff0, ff1, ff2, s0, s1, s2, s3, sf0, sf1, sf2, sf3, -⟩ := H8.out.cells
          go_wp2_with fail
          have HF := Lib.hid (H8.out.fin 0 8 (m : Int) 2)
          change bodyPost _ _ _ _ _ (putF (put4 w8 w.heap.size 0) (w.heap.size + 1) 8 (m : Int) 2)
          generalize putF (put4 w8 w.heap.size 0) (w.heap.size + 1) 8 (m : Int) 2 = W9 at *
          obtain ⟨p0, p1, p2, p3, -⟩ := HF.out.1.cells
          obtain ⟨g0, g1, g2, -⟩ := HF.out.2.1.cells
          (try simp only [Exit.inBlock, Exit.then])
          refine bodyPost_ret (v := .tuple #[setV 0, .int .i64 0, .agg #[.int .i64 8, .int .i64 (m : Int), .int .i64 2]]) ?hr ?hd ?hp
          case hd => rfl
          case hr => simp [results, Tryd.results35, go_sem, p0, p1, p2, p3, g0, g1, g2, setV, wv]
          case hp =>
            rw [HNN.out]
            exact ⟨⟨8, (m : Int), by decide, rfl⟩, HF.out.2.2⟩
end Go.Proofs.YtafmhhhboihdfaaDoor

