/-
  Sets of bytes: set.Of, glob.one. Conditions: those that each theorem names.
-/
import Derived.Test.YtafmhhhboihdfaaDoorSet2
import Derived.Lib.Strings
import Derived.Lib.IndexBytes
namespace Go.Proofs.YtafmhhhboihdfaaDoor
open Go.RowKit
set_option linter.unusedVariables false
def bl (s : ByteArray) : List UInt8 := s.data.toList
theorem bl_len (s : ByteArray) : (bl s).length = s.size := (Lib.size_eq s).symm
def ofS (l : List UInt8) : BitVec 256 := l.foldl (fun S c => S ||| bit c.toNat) 0
theorem ofS_snoc (l : List UInt8) (c : UInt8) : ofS (l ++ [c]) = ofS l ||| bit c.toNat := by simp [ofS]
theorem take_snoc (l : List UInt8) (k : Nat) (h : k < l.length) : l.take (k + 1) = l.take k ++ [l[k]] := by
  rw [List.take_add_one, List.getElem?_eq_getElem h]; rfl
set_option maxRecDepth 100000 in
set_option maxHeartbeats 800000 in
theorem of_any (s : ByteArray) (w : World) (hs : s.size ≤ 9223372036854775807) :
    Calls Tryd.prog 40 #[.string s] w fun e w' => e = .returned (setV (ofS (bl s))) ∧ Below w.heap.size w w' := by
  have HP := Lib.hid (fun S b s w hb hs => put_any S b s w hb hs)
  have HL := Lib.hid (bl_len s)
  have hat : ∀ j (hj : j < s.size), ((bl s).take (j + 1) = (bl s).take j ++ [s[j]]) := fun j hj => by
    rw [take_snoc _ _ (by rw [bl_len]; exact hj)]; rfl
  have HA := Lib.hid hat
  clear hat
  generalize hS : ofS (bl s) = S
  have HSS := Lib.hid hS
  clear hS
  go_enter Tryd.func40, Tryd.ntmps40
  go_wp2_with fail
  go_loopw [7] (fun a wr => ∃ (j : Nat), a = .int .i64 j ∧ j ≤ s.size ∧ SetAt wr (w.heap.size + 1) (ofS ((bl s).take j)) ∧ SetAt wr w.heap.size 0 ∧ Below w.heap.size w wr) (fun a _ => s.size - (intOf a).toNat)
  case atStart =>
    have h1 := setat_alloc w
    refine ⟨0, rfl, Nat.zero_le _, ?_, ?_, ((Below.refl _ _).alloc (Nat.le_refl _) _).alloc (by simp) _⟩
    · have h2 := setat_alloc (w.alloc (.cells #[.int .u64 0, .int .u64 0, .int .u64 0, .int .u64 0] 68))
      rw [show ofS ((bl s).take 0) = 0 by simp [ofS]]
      simpa using h2
    · exact h1.kept (World.grownBy_alloc _ _ none) (by simp)
  case round =>
    obtain ⟨j, rfl, hj, hs1, hs0, hbel⟩ := hrel
    by_cases hlt : j < s.size
    · have hltI : (j : Int) < (s.size : Int) := by omega
      have HE := Lib.hid (HA.out j hlt)
      have hx1 : (s[j].toNat : Int) ≤ 255 := by have := s[j].toNat_lt; omega
      have HC := Lib.hid (HP.out _ s[j].toNat _ wr (by omega) hs1)
      rw [← ofS_snoc, ← HE.out] at HC
      have HB := Lib.hid hbel
      have HS0 := Lib.hid hs0
      clear hbel hs1 hs0 HE
      go_wp2_with fail
      refine HC.out.mono ?_; rintro e w' ⟨rfl, hs1, hg⟩
      have hs1 := Lib.hid hs1
      have hg := Lib.hid hg
      go_wp2_with fail
      go_roundw
      case rel =>
        exact ⟨j + 1, congrArg (Value.int .i64) (by omega), by omega, hs1.out, HS0.out.kept hg.out (by simp), HB.out.grown hg.out HB.out.size (fun r hr => by cases hr; omega)⟩
      case measure => simp [intOf]; omega
    · have hltI : ¬ (j : Int) < (s.size : Int) := by omega
      have HB := Lib.hid hbel
      have HS0 := Lib.hid hs0
      rw [List.take_of_length_le (by rw [HL.out]; omega)] at hs1
      rw [HSS.out] at hs1
      obtain ⟨p0, p1, p2, p3, -⟩ := hs1.cells
      obtain ⟨o0, o1, o2, o3, f0, f1, f2, f3⟩ := hs0.cells
      clear hbel hs1 hs0
      go_wp2_with fail
      have HZ := Lib.hid (put4_at S HS0.out)
      have HG := Lib.hid (put4_grown wr w.heap.size S)
      change bodyPost _ _ _ _ _ (put4 wr w.heap.size S)
      generalize put4 wr w.heap.size S = W2 at *
      obtain ⟨p0, p1, p2, p3, -⟩ := HZ.out.cells
      (try simp only [Exit.inBlock, Exit.then])
      refine bodyPost_ret (v := setV S) (by simp [results, Tryd.results40, go_sem, p0, p1, p2, p3, setV, wv]) rfl ?_
      exact ⟨rfl, HB.out.grown HG.out HB.out.size (fun r hr => by cases hr; omega)⟩
/-- a piece of a pattern: its kind and its set -/
structure Pc where
  kind : Int
  set : BitVec 256
def pcV (p : Pc) : Value := .agg #[.int .i64 p.kind, wv p.set 0, wv p.set 1, wv p.set 2, wv p.set 3]
def oneP (c : UInt8) : Pc := ⟨1, bit c.toNat⟩
theorem ofS_one (c : UInt8) : ofS [c] = bit c.toNat := by simp [ofS]
theorem conv_back (w : World) (B g n cap : Nat) (C : Array Value) (t : TypeId) (fz : Nat × Nat) (l : List UInt8) (hl : l.length = n) (h : w.heap[B]? = some (.cells C t fz)) (hc : ∀ i (hi : i < l.length), C[g + i]? = some (.int .u8 (iv l[i]))) :
    (convert 22 9 (.slice (some ⟨B, g, none⟩) n cap)).run Tryd.prog w = .ok (.string ⟨l.toArray⟩) w := by
  subst hl
  refine run_convert_bytes_back w 22 9 5 ⟨B, g, none⟩ cap l Tryd.underlying22 Tryd.underlying5 Tryd.underlying9 fun j hj => ?_
  have hadd : (⟨B, g, none⟩ : Addr).add j = ⟨B, g + j, none⟩ := by unfold Addr.add; split <;> simp_all
  rw [hadd, cell_of_heap h]
  exact hc j hj
def PcAt (w : World) (s : Nat) (p : Pc) : Prop := w.heap[s]? = some (.cells #[.int .i64 p.kind, wv p.set 0, wv p.set 1, wv p.set 2, wv p.set 3] 70)
theorem PcAt.cells {w : World} {s : Nat} {p : Pc} (h : PcAt w s p) :
    w.cell? ⟨s, 0, none⟩ = some (.int .i64 p.kind) ∧ w.cell? ⟨s, 1, none⟩ = some (.int .u64 (wd p.set 0)) ∧ w.cell? ⟨s, 2, none⟩ = some (.int .u64 (wd p.set 1)) ∧ w.cell? ⟨s, 3, none⟩ = some (.int .u64 (wd p.set 2)) ∧ w.cell? ⟨s, 4, none⟩ = some (.int .u64 (wd p.set 3)) ∧
    w.frozen? ⟨s, 0, none⟩ = false ∧ w.frozen? ⟨s, 1, none⟩ = false ∧ w.frozen? ⟨s, 2, none⟩ = false ∧ w.frozen? ⟨s, 3, none⟩ = false ∧ w.frozen? ⟨s, 4, none⟩ = false := by
  unfold PcAt wv at h
  refine ⟨?_, ?_, ?_, ?_, ?_, ?_, ?_, ?_, ?_, ?_⟩
  all_goals first
    | (rw [World.cell?, h]; rfl)
    | (rw [World.frozen?, h]; rfl)
def put5 (w : World) (s : Nat) (p : Pc) : World :=
  ((((w.setCell ⟨s, 0, none⟩ (.int .i64 p.kind)).setCell ⟨s, 1, none⟩ (.int .u64 (wd p.set 0))).setCell ⟨s, 2, none⟩ (.int .u64 (wd p.set 1))).setCell ⟨s, 3, none⟩ (.int .u64 (wd p.set 2))).setCell ⟨s, 4, none⟩ (.int .u64 (wd p.set 3))
theorem put5_at {w : World} {s : Nat} {p0 : Pc} (p : Pc) (h : PcAt w s p0) : PcAt (put5 w s p) s p := by
  unfold put5
  exact heap_setCell_at _ s 4 _ 70 (0, 0) _ (heap_setCell_at _ s 3 _ 70 (0, 0) _ (heap_setCell_at _ s 2 _ 70 (0, 0) _ (heap_setCell_at _ s 1 _ 70 (0, 0) _ (heap_setCell_at w s 0 _ 70 (0, 0) _ h))))
theorem put5_grown (w : World) (s : Nat) (p : Pc) : w.grownBy (put5 w s p) (some s) :=
  grown_trans (grown_trans (grown_trans (grown_trans (grown_setCell _ s 0 _) (grown_setCell _ s 1 _)) (grown_setCell _ s 2 _)) (grown_setCell _ s 3 _)) (grown_setCell _ s 4 _)
theorem pcat_alloc (w : World) : PcAt (w.alloc (.cells #[.int .i64 0, .int .u64 0, .int .u64 0, .int .u64 0, .int .u64 0] 70)) w.heap.size ⟨0, 0⟩ := by
  unfold PcAt
  rw [heap_alloc_new]
  rfl
theorem PcAt.kept {w w' : World} {s : Nat} {S : Pc} {row : Option Nat} (h : PcAt w s S) (g : w.grownBy w' row) (hr : row ≠ some s) : PcAt w' s S := by
  have hs : s < w.heap.size := (Array.getElem?_eq_some_iff.1 h).1
  exact (g.block s hs (fun e => hr e.symm)).trans h
theorem PcAt.below {w w' : World} {B s : Nat} {S : Pc} (h : PcAt w s S) (g : Below B w w') (hs : s < B) : PcAt w' s S :=
  (g.block s hs).trans h
set_option maxRecDepth 100000 in
set_option maxHeartbeats 800000 in
theorem one_any (c : UInt8) (w : World) :
    Calls Tryd.prog 50 #[.int .u8 (iv c)] w fun e w' => e = .returned (pcV (oneP c)) ∧ Below w.heap.size w w' := by
  have hcv := conv_back ((w.alloc (.cells #[.int .i64 0, .int .u64 0, .int .u64 0, .int .u64 0, .int .u64 0] 70)).alloc (.cells #[.int .u8 (iv c)] 5)) (w.heap.size + 1) 0 1 1 #[.int .u8 (iv c)] 5 (0, 0) [c] rfl (by
      have := heap_alloc_new (w.alloc (.cells #[.int .i64 0, .int .u64 0, .int .u64 0, .int .u64 0, .int .u64 0] 70)) (.cells #[.int .u8 (iv c)] 5)
      simpa using this) (fun i hi => by simp at hi; subst hi; rfl)
  have HO := Lib.hid (fun w => of_any ⟨[c].toArray⟩ w (by show (1 : Nat) ≤ _; omega))
  rw [show ofS (bl ⟨[c].toArray⟩) = bit c.toNat from ofS_one c] at HO
  have HPP := Lib.hid (show PcAt ((w.alloc (.cells #[.int .i64 0, .int .u64 0, .int .u64 0, .int .u64 0, .int .u64 0] 70)).alloc (.cells #[.int .u8 (iv c)] 5)) w.heap.size ⟨0, 0⟩ from (pcat_alloc w).kept (World.grownBy_alloc _ _ none) (by simp))
  have HB := Lib.hid (show Below w.heap.size w ((w.alloc (.cells #[.int .i64 0, .int .u64 0, .int .u64 0, .int .u64 0, .int .u64 0] 70)).alloc (.cells #[.int .u8 (iv c)] 5)) from ((Below.refl _ _).alloc (Nat.le_refl _) _).alloc (by simp) _)
  have HZ := Lib.hid (show ((w.alloc (.cells #[.int .i64 0, .int .u64 0, .int .u64 0, .int .u64 0, .int .u64 0] 70)).alloc (.cells #[.int .u8 (iv c)] 5)).heap.size = w.heap.size + 2 by simp)
  unfold pcV oneP
  generalize bit c.toNat = S at *
  go_enter Tryd.func50, Tryd.ntmps50
  go_wp2_with fail
  refine (HO.out _).mono ?_; rintro e w' ⟨rfl, hb⟩
  rw [HZ.out] at hb
  have hpp := HPP.out.below hb (by omega)
  have HBB := Lib.hid (HB.out.trans (hb.mono (by omega)))
  have HP2 := Lib.hid hpp
  obtain ⟨o0, o1, o2, o3, o4, f0, f1, f2, f3, f4⟩ := hpp.cells
  clear hb hpp HB HPP HO hcv HZ
  unfold setV wv
  go_wp2_with fail
  have HZ := Lib.hid (put5_at ⟨1, S⟩ HP2.out)
  have HG := Lib.hid (put5_grown w' w.heap.size ⟨1, S⟩)
  change bodyPost _ _ _ _ _ (put5 w' w.heap.size ⟨1, S⟩)
  generalize put5 w' w.heap.size ⟨1, S⟩ = W2 at *
  obtain ⟨p0, p1, p2, p3, p4, -⟩ := HZ.out.cells
  (try simp only [Exit.inBlock, Exit.then])
  refine bodyPost_ret (v := .agg #[.int .i64 1, wv S 0, wv S 1, wv S 2, wv S 3]) (by simp [results, Tryd.results50, go_sem, p0, p1, p2, p3, p4, wv]) rfl ?_
  exact ⟨rfl, HBB.out.grown HG.out HBB.out.size (fun r hr => by cases hr; omega)⟩
end Go.Proofs.YtafmhhhboihdfaaDoor
