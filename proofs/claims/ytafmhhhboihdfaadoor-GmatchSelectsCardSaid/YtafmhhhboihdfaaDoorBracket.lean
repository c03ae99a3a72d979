/-
  set.Bracket, as a glob calls it. Conditions: those that each theorem names.
-/
import Derived.Test.YtafmhhhboihdfaaDoorRead
namespace Go.Proofs.YtafmhhhboihdfaaDoor
open Go.RowKit
set_option linter.unusedVariables false
attribute [local go_sem ↓] Go.wp_at_zero Go.wp_at_succ
theorem read_any (w : World) (r : Nat) (a : Option Addr) (m cap p : Nat) (l : List UInt8) (hr : Rd w r a m cap p l) (hp : p ≤ m) :
    Calls Tryd.prog 64 #[.pointer (some ⟨r, 0, none⟩)] w fun e w' => ReadPost w w' r a m cap p (brS (l.drop p)) e := by
  by_cases h1 : stI l (p : Int) 94 = true
  · have hpm : p < m := by
      rcases Nat.lt_or_ge p m with h | h
      · exact h
      · unfold stI stands at h1; rw [Int.toNat_natCast, List.getElem?_eq_none (by rw [hr.hm]; exact h)] at h1; simp at h1
    obtain ⟨c, u, hd⟩ := drop_some (l := l) (q := p) (by rw [hr.hm]; exact hpm)
    have hc : c = 94 := by rw [(st_drop c u hd 94).1] at h1; exact iv_inj (b := 94) (show iv c = iv 94 from (by simpa using h1 : iv c = 94))
    have e : brS (l.drop p) = (readS true 0 (l.drop (p + 1))).map fun R => (~~~ R.1, R.2 + 1) := by
      unfold brS; rw [if_pos (by rw [hd, hc]; exact .inl rfl), hd, List.tail_cons, (drop_lt c u hd).2.2]
    rw [e]
    exact read_caret w r a m cap p l hr hp h1 hpm
  have h1' : stI l (p : Int) 94 = false := by simpa using h1
  by_cases h2 : stI l (p : Int) 33 = true
  · have hpm : p < m := by
      rcases Nat.lt_or_ge p m with h | h
      · exact h
      · unfold stI stands at h2; rw [Int.toNat_natCast, List.getElem?_eq_none (by rw [hr.hm]; exact h)] at h2; simp at h2
    obtain ⟨c, u, hd⟩ := drop_some (l := l) (q := p) (by rw [hr.hm]; exact hpm)
    have hc : c = 33 := by rw [(st_drop c u hd 33).1] at h2; exact iv_inj (b := 33) (show iv c = iv 33 from (by simpa using h2 : iv c = 33))
    have e : brS (l.drop p) = (readS true 0 (l.drop (p + 1))).map fun R => (~~~ R.1, R.2 + 1) := by
      unfold brS; rw [if_pos (by rw [hd, hc]; exact .inr rfl), hd, List.tail_cons, (drop_lt c u hd).2.2]
    rw [e]
    exact read_bang w r a m cap p l hr hp h1' h2 hpm
  have h2' : stI l (p : Int) 33 = false := by simpa using h2
  have e : brS (l.drop p) = readS true 0 (l.drop p) := by
    unfold brS
    rw [if_neg]
    cases hd : l.drop p with
    | nil => simp
    | cons c u =>
      rintro (h | h)
      · have : c = 94 := by simpa using h
        rw [st0_true (x := 94) hd (by rw [this]; rfl)] at h1'; simp at h1'
      · have : c = 33 := by simpa using h
        rw [st0_true (x := 33) hd (by rw [this]; rfl)] at h2'; simp at h2'
  rw [e]
  exact read_plain w r a m cap p l hr hp h1' h2'

/-- what Bracket answers -/
def BrPost (w w' : World) (p : Nat) (o : Option (BitVec 256 × Nat)) (e : Ending) : Prop := match o with
  | some q => e = .returned (.tuple #[setV q.1, .int .i64 ((p + q.2 : Nat) : Int), .nilIface]) ∧ Below w.heap.size w w'
  | none => (∃ t v, e = .returned (.tuple #[setV 0, .int .i64 0, .iface t v])) ∧ Below w.heap.size w w'
theorem rd_box (w : World) (a : Option Addr) (m cap p : Nat) (l : List UInt8) (hb : HasB w a l) (hg : Glob w) (hm : l.length = m) (ms : m ≤ cap) (cs : cap ≤ 9223372036854775807) (mb : m ≤ 256) :
    Rd ((w.alloc (.cells #[.int .u64 0, .int .u64 0, .int .u64 0, .int .u64 0] 68)).alloc (.cells #[.slice a m cap, .int .i64 p, .int .i64 2] 104)) (w.heap.size + 1) a m cap p l := by
  have hs := hg.size
  refine ⟨?_, ?_, ?_, by omega, hm, ms, cs, mb⟩
  · have e := heap_alloc_new (w.alloc (.cells #[.int .u64 0, .int .u64 0, .int .u64 0, .int .u64 0] 68)) (.cells #[.slice a m cap, .int .i64 p, .int .i64 2] 104)
    rw [show (w.alloc (.cells #[.int .u64 0, .int .u64 0, .int .u64 0, .int .u64 0] 68)).heap.size = w.heap.size + 1 by simp] at e
    exact e
  · have g := grown_trans (alloc_grown w (.cells #[.int .u64 0, .int .u64 0, .int .u64 0, .int .u64 0] 68) none) (alloc_grown (w.alloc (.cells #[.int .u64 0, .int .u64 0, .int .u64 0, .int .u64 0] 68)) (.cells #[.slice a m cap, .int .i64 p, .int .i64 2] 104) none)
    rcases hb with h1 | ⟨b, off, h1, h2, h3⟩
    · exact .inl h1
    · exact .inr ⟨b, off, h1, by omega, fun i hi => (World.cell?_of_block (a := ⟨b, off + i, none⟩) (g.block b h2 (by simp))).trans (h3 i hi)⟩
  · exact (hg.below' ((Below.refl _ _).alloc (Nat.le_refl _) _)).below' ((Below.refl _ _).alloc (Nat.le_refl _) _)
set_option maxRecDepth 100000 in
set_option maxHeartbeats 1600000 in
theorem bracket_any (w : World) (a : Option Addr) (m cap p : Nat) (l : List UInt8) (hb : HasB w a l) (hg : Glob w) (hm : l.length = m) (ms : m ≤ cap) (cs : cap ≤ 9223372036854775807) (mb : m ≤ 256) (hp : p ≤ m) :
    Calls Tryd.prog 49 #[.slice a m cap, .int .i64 p, .int .i64 2] w fun e w' => BrPost w w' p (brS (l.drop p)) e := by
  have HR := Lib.hid (rd_box w a m cap p l hb hg hm ms cs mb)
  have HZ := Lib.hid (show SetAt ((w.alloc (.cells #[.int .u64 0, .int .u64 0, .int .u64 0, .int .u64 0] 68)).alloc (.cells #[.slice a m cap, .int .i64 p, .int .i64 2] 104)) w.heap.size 0 from (setat_alloc w).kept (alloc_grown _ _ none) (by simp))
  have HB := Lib.hid (show Below w.heap.size w ((w.alloc (.cells #[.int .u64 0, .int .u64 0, .int .u64 0, .int .u64 0] 68)).alloc (.cells #[.slice a m cap, .int .i64 p, .int .i64 2] 104)) from ((Below.refl _ _).alloc (Nat.le_refl _) _).alloc (by simp) _)
  have i1 : ¬ (p : Int) < 0 := by omega
  have i2 : ¬ (m : Int) < (p : Int) := by omega
  have i3 : (p : Int) ≤ (m : Int) := by omega
  clear hb hg hm
  go_enter Tryd.func49, Tryd.ntmps49
  go_upto_region 2 with fail
  generalize ((w.alloc (.cells #[.int .u64 0, .int .u64 0, .int .u64 0, .int .u64 0] 68)).alloc (.cells #[.slice a m cap, .int .i64 p, .int .i64 2] 104)) = W1 at *
  go_wp2_with fail
  have hc := read_any W1 (w.heap.size + 1) a m cap p l HR.out hp
  have keep : ∀ w' : World, W1.grownBy w' (some (w.heap.size + 1)) → SetAt w' w.heap.size 0 ∧ Below w.heap.size w w' := fun w' g =>
    ⟨HZ.out.kept g (by intro e; have := Option.some.inj e; omega), HB.out.grown g HB.out.size (fun k hk => by have := Option.some.inj hk; omega)⟩
  have HKEEP := Lib.hid keep
  clear keep
  cases hbr : brS (l.drop p) with
  | none =>
    have HBR := Lib.hid hbr
    rw [hbr] at hc
    refine hc.mono ?_; rintro e w5 ⟨⟨T, t', v', rfl⟩, g5⟩
    obtain ⟨hz5, hb5⟩ := HKEEP.out _ g5
    have HZ5 := Lib.hid (hz5.kept (alloc_grown w5 (.cells #[.int .u64 (wd T 0), .int .u64 (wd T 1), .int .u64 (wd T 2), .int .u64 (wd T 3)] 68) none) (by simp))
    have HB5 := Lib.hid (hb5.alloc hb5.size (.cells #[.int .u64 (wd T 0), .int .u64 (wd T 1), .int .u64 (wd T 2), .int .u64 (wd T 3)] 68))
    clear hc hbr g5 hz5 hb5 HKEEP HZ HB HR
    unfold setV wv
    go_upto_region 5 with fail
    generalize w5.alloc (.cells #[.int .u64 (wd T 0), .int .u64 (wd T 1), .int .u64 (wd T 2), .int .u64 (wd T 3)] 68) = W6 at *
    obtain ⟨z0, z1, z2, z3, zf0, zf1, zf2, zf3⟩ := HZ5.out.cells
    go_wp2_with fail
    have HY := Lib.hid (put4_at 0 HZ5.out)
    have HGG := Lib.hid (put4_grown W6 w.heap.size 0)
    change bodyPost _ _ _ _ _ (put4 W6 w.heap.size 0)
    generalize put4 W6 w.heap.size 0 = W2 at *
    obtain ⟨p0, p1, p2, p3, -⟩ := HY.out.cells
    (try simp only [Exit.inBlock, Exit.then])
    refine bodyPost_ret (v := .tuple #[setV 0, .int .i64 0, .iface t' v']) (by simp [results, Tryd.results49, go_sem, p0, p1, p2, p3, setV, wv]) rfl ?_
    unfold BrPost
    rw [HBR.out]
    exact ⟨⟨_, _, rfl⟩, HB5.out.grown HGG.out HB5.out.size (fun k hk => by have := Option.some.inj hk; omega)⟩
  | some q =>
    obtain ⟨S, n⟩ := q
    have HBR := Lib.hid hbr
    rw [hbr] at hc
    refine hc.mono ?_; rintro e w5 ⟨rfl, hr5, g5⟩
    obtain ⟨hz5, hb5⟩ := HKEEP.out _ g5
    obtain ⟨k, hk⟩ : ∃ k : Nat, k = p + n := ⟨_, rfl⟩
    rw [show p + (S, n).2 = k from hk.symm] at hr5
    have HK := Lib.hid hk
    have HR5 := Lib.hid (HR.out.grown g5 hr5)
    have HZ5 := Lib.hid (hz5.kept (alloc_grown w5 (.cells #[.int .u64 (wd S 0), .int .u64 (wd S 1), .int .u64 (wd S 2), .int .u64 (wd S 3)] 68) none) (by simp))
    have HB5 := Lib.hid (hb5.alloc hb5.size (.cells #[.int .u64 (wd S 0), .int .u64 (wd S 1), .int .u64 (wd S 2), .int .u64 (wd S 3)] 68))
    have HR6 := Lib.hid (HR5.out.alloc (.cells #[.int .u64 (wd S 0), .int .u64 (wd S 1), .int .u64 (wd S 2), .int .u64 (wd S 3)] 68))
    have HY6 := Lib.hid (show SetAt (w5.alloc (.cells #[.int .u64 (wd S 0), .int .u64 (wd S 1), .int .u64 (wd S 2), .int .u64 (wd S 3)] 68)) w5.heap.size S from heap_alloc_new _ _)
    have HL := Lib.hid (show w.heap.size < w5.heap.size from hz5.lt)
    clear hc hbr hr5 g5 hz5 hb5 HKEEP HZ HB HR hk HR5
    unfold setV wv
    go_upto_region 5 with fail
    generalize w5.alloc (.cells #[.int .u64 (wd S 0), .int .u64 (wd S 1), .int .u64 (wd S 2), .int .u64 (wd S 3)] 68) = W6 at *
    generalize w5.heap.size = Y at *
    obtain ⟨z0, z1, z2, z3, zf0, zf1, zf2, zf3⟩ := HZ5.out.cells
    obtain ⟨y0, y1, y2, y3, -⟩ := HY6.out.cells
    obtain ⟨r0, r1, r2, rf⟩ := HR6.out.cells
    have n1 : ¬ w.heap.size = Y := by have := HL.out; omega
    have n2 : ¬ Y = w.heap.size := by have := HL.out; omega
    go_wp2_with fail
    go_region_held3 (fun W => W.cell? ⟨Y, 0, none⟩ = some (.int .u64 (wd S 0)) ∧ W.cell? ⟨Y, 1, none⟩ = some (.int .u64 (wd S 1)) ∧ W.cell? ⟨Y, 2, none⟩ = some (.int .u64 (wd S 2)) ∧ W.cell? ⟨Y, 3, none⟩ = some (.int .u64 (wd S 3)) ∧ W.cell? ⟨w.heap.size + 1, 1, none⟩ = some (.int .i64 k)) (go_keep) (fail)
    rename_i hHeld
    clear hHeld
    have HZD := Lib.hid (show SetAt W6.drew w.heap.size 0 from HZ5.out)
    have HY := Lib.hid (put4_at S HZD.out)
    have HGG := Lib.hid (grown_trans (drew_grown W6 _) (put4_grown W6.drew w.heap.size S))
    change Exit.then _ _ _ _ (put4 W6.drew w.heap.size S)
    generalize put4 W6.drew w.heap.size S = W2 at *
    obtain ⟨p0, p1, p2, p3, -⟩ := HY.out.cells
    go_wp2_with fail
    (try simp only [Exit.inBlock, Exit.then])
    refine bodyPost_ret (v := .tuple #[setV S, .int .i64 k, .nilIface]) (by simp [results, Tryd.results49, go_sem, p0, p1, p2, p3, setV, wv]) rfl ?_
    rw [HK.out]
    unfold BrPost
    rw [HBR.out]
    exact ⟨rfl, HB5.out.grown HGG.out HB5.out.size (fun k hk => by have := Option.some.inj hk; omega)⟩
end Go.Proofs.YtafmhhhboihdfaaDoor
