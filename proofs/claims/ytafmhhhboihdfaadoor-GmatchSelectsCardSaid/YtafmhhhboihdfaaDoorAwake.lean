/-
  The law's helpers: read, awake. Conditions: those that each theorem names.
-/
import Derived.Test.YtafmhhhboihdfaaDoorParse
import Derived.Test.YtafmhhhboihdfaaDoorMatch
import Derived.Test.YtafmhhhboihdfaaDoorLaw
import Derived.Lib.SlBytesConst
namespace Go.Proofs.YtafmhhhboihdfaaDoor
open Go.RowKit
set_option linter.unusedVariables false
set_option maxRecDepth 100000 in
set_option maxHeartbeats 800000 in
theorem parse_long (w : World) (a : Option Addr) (m cap : Nat) (hg : Glob w) (hm : 256 < m) (ms : m ≤ cap) (cs : cap ≤ 9223372036854775807) :
    Calls Tryd.prog 28 #[.slice a m cap] w fun e w' => (∃ t v, e = .returned (.tuple #[.pointer none, .iface t v])) ∧ Below w.heap.size w w' := by
  have HE := Lib.hid hg.1
  clear hg
  have hI : (256 : Int) < (m : Int) := by omega
  go_enter Tryd.func28, Tryd.ntmps28
  go_wp2_with fail
  go_step3
  go_wp2_with fail
  have HO := Lib.hid (of_err w 2 HE.out (by omega) (by omega))
  refine HO.out.mono ?_; rintro e w' ⟨t, v, rfl, rfl⟩
  go_wp2_with fail
  refine (at_any _ t v 0).mono ?_; rintro e w1 ⟨v1, rfl, hb1⟩
  have HB1 := Lib.hid hb1
  clear hb1
  go_wp2_with fail
  refine (in_any _ 99 v1 2).mono ?_; rintro e w2 ⟨v2, rfl, hb2⟩
  have HB2 := Lib.hid (HB1.out.trans (hb2.mono HB1.out.size))
  clear hb2
  go_wp2_with fail
  (try rw [Exit.noGoto_ret])
  go_ret2
  exact ⟨⟨_, _, rfl⟩, HB2.out⟩
set_option maxRecDepth 100000 in
set_option maxHeartbeats 800000 in
theorem pread_any (w : World) (a : Option Addr) (m cap : Nat) (l : List UInt8) (hb : HasB w a l) (hg : Glob w) (hm : l.length = m) (ms : m ≤ cap) (cs : cap ≤ 9223372036854775807) (mb : m ≤ 256) :
    Calls Tryd.prog 11 #[.slice a m cap] w fun e w' => e = .returned (.pointer (some ⟨w.heap.size, 0, none⟩)) ∧ ∃ v, PtW w w' v (parseS l) := by
  have HC := Lib.hid (parse_any w a m cap l hb hg hm ms cs mb)
  clear hb hg hm
  go_enter Tryd.func11, Tryd.ntmps11
  go_wp2_with fail
  refine HC.out.mono ?_; rintro e w1 ⟨rfl, v, hp⟩
  have HP := Lib.hid hp
  clear hp
  go_wp2_with fail
  go_ret
  exact ⟨rfl, v, HP.out⟩
set_option maxRecDepth 100000 in
set_option maxHeartbeats 800000 in
theorem pread_long (w : World) (a : Option Addr) (m cap : Nat) (hg : Glob w) (hm : 256 < m) (ms : m ≤ cap) (cs : cap ≤ 9223372036854775807) :
    Calls Tryd.prog 11 #[.slice a m cap] w fun e w' => e = .returned (.pointer none) ∧ Below w.heap.size w w' := by
  have HC := Lib.hid (parse_long w a m cap hg hm ms cs)
  clear hg hm
  go_enter Tryd.func11, Tryd.ntmps11
  go_wp2_with fail
  refine HC.out.mono ?_; rintro e w1 ⟨⟨t, v, rfl⟩, hb⟩
  have HB := Lib.hid hb
  clear hb
  go_wp2_with fail
  go_ret
  exact ⟨rfl, HB.out⟩
/-- bytes that the call has just made -/
theorem hasB_new (w : World) (l : List UInt8) (C : Array Value) (fz : Nat × Nat) (hC : C.toList = l.map fun c => .int .u8 (iv c)) : HasB (w.alloc (.cells C 5 fz)) (some ⟨w.heap.size, 0, none⟩) l := by
  refine .inr ⟨_, 0, rfl, by simp, fun i hi => ?_⟩
  rw [Nat.zero_add, cell_of_heap (heap_alloc_new w _), ← Array.getElem?_toList, hC]
  simp [hi]
theorem one_hits (c d : UInt8) : (oneP c).hits d = decide (d = c) := by
  unfold Pc.hits oneP
  have h : (bit c.toNat).getLsbD d.toNat = decide (d = c) := by
    rw [bit_get _ _ (by have := d.toNat_lt; omega), Bool.eq_iff_iff]
    simp [UInt8.toNat_inj]
  rw [h]; rfl
theorem awake_yes : mat (parseS [97, 42, 98]) [97, 88, 98] = true := by
  have e : parseS [97, 42, 98] = [oneP 97, starP, oneP 98] := by simp [parse_cons, parseS]
  rw [e, mat_iff]
  refine (mt_hit rfl _ _).2 ⟨97, [88, 98], rfl, by rw [one_hits]; rfl, (mt_star rfl _ _).2 ⟨[88], [98], rfl, (mt_one_hit rfl _).2 ⟨98, rfl, by rw [one_hits]; rfl⟩⟩⟩
theorem awake_no : mat (parseS [97, 63]) [97] = false := by
  have e : parseS [97, 63] = [oneP 97, anyP] := by simp [parse_cons, parseS]
  rw [e]
  cases h : mat [oneP 97, anyP] [97] with
  | false => rfl
  | true =>
    rw [mat_iff, mt_hit rfl] at h
    obtain ⟨c, v, e, -, h⟩ := h
    obtain ⟨d, e2, -⟩ := (mt_one_hit rfl _).1 h
    subst e2
    simp at e
/-- a pattern that was read, and bytes made behind it: does it match? -/
theorem match_read {w W : World} {v : Value} {l : List Pc} (h : PtW w W v l) (hl : l.length ≤ 4096) (W' : World) (hb : Below W.heap.size W W') (aS : Option Addr) (m capS : Nat) (bs : List UInt8) (hbs : HasB W' aS bs) (hm : bs.length = m) (hmb : m ≤ 140737488351232) (hms : m ≤ capS) (hcs : capS ≤ 9223372036854775807) :
    Calls Tryd.prog 16 #[.pointer (some ⟨w.heap.size, 0, none⟩), .slice aS m capS] W' fun e w' => e = .returned (.bool (mat l bs)) ∧ Below W'.heap.size W' w' := by
  obtain ⟨a, cap, -, hq, hp⟩ := (h.below hb).out
  exact match_any W' w.heap.size W'.heap.size a l.length cap l aS m capS bs rfl hl hq hp hbs hm hmb hms hcs
set_option maxRecDepth 100000 in
set_option maxHeartbeats 1600000 in
theorem awake_any (w : World) (hg : Glob w) : Calls Tryd.prog 14 #[] w fun e w' => e = .returned (.bool true) ∧ Below w.heap.size w w' := by
  have HB1 := Lib.hid (show Below w.heap.size w (w.alloc (.cells #[.int .u8 97, .int .u8 42, .int .u8 98] 5 (3, 4))) from (Below.refl _ _).alloc (Nat.le_refl _) _)
  have HG1 := Lib.hid (hg.below' HB1.out)
  have HC1 := Lib.hid (pread_any (w.alloc (.cells #[.int .u8 97, .int .u8 42, .int .u8 98] 5 (3, 4))) (some ⟨w.heap.size, 0, none⟩) 3 3 [97, 42, 98] (hasB_new w [97, 42, 98] _ _ rfl) HG1.out rfl (by omega) (by omega) (by omega))
  have hcv := fun (w : World) (C : Array Value) (n c : Nat) => Lib.run_convert_bytes_const (P := Tryd.prog) w 22 5 C n c Tryd.underlying22 Tryd.underlying5
  have HY := Lib.hid awake_yes
  have HN := Lib.hid awake_no
  have HL1 := Lib.hid (parse_len 3 [97, 42, 98] (by simp))
  have HL2 := Lib.hid (parse_len 2 [97, 63] (by simp))
  generalize parseS [97, 42, 98] = l1 at *
  clear hg
  go_enter Tryd.func14, Tryd.ntmps14
  go_wp2_with fail
  generalize w.alloc (.cells #[.int .u8 97, .int .u8 42, .int .u8 98] 5 (3, 4)) = W1 at *
  refine HC1.out.mono ?_; rintro e w2 ⟨rfl, v, hp2⟩
  have HP2 := Lib.hid hp2
  clear hp2 HC1
  go_wp2_with fail
  refine (match_read HP2.out (by have := HL1.out; simp at this; omega) _ ((Below.refl _ _).alloc (Nat.le_refl _) _) (some ⟨w2.heap.size, 0, none⟩) 3 3 [97, 88, 98] (hasB_new w2 [97, 88, 98] _ _ rfl) rfl (by omega) (by omega) (by omega)).mono ?_; rintro e w3 ⟨rfl, hb3⟩
  rw [HY.out]
  have HB3 := Lib.hid ((HB1.out.trans (HP2.out.b.mono HB1.out.size)).trans ((((Below.refl _ _).alloc (Nat.le_refl _) _).trans (hb3.mono (by simp))).mono (Nat.le_trans HB1.out.size HP2.out.b.size)))
  have HG3 := Lib.hid ((HG1.out.below' HP2.out.b).below' (((Below.refl _ _).alloc (Nat.le_refl _) _).trans (hb3.mono (by simp))))
  have HG4 := Lib.hid (HG3.out.below' ((Below.refl w3.heap.size w3).alloc (Nat.le_refl _) (.cells #[.int .u8 97, .int .u8 63] 5 (2, 3))))
  have HC4 := Lib.hid (pread_any (w3.alloc (.cells #[.int .u8 97, .int .u8 63] 5 (2, 3))) (some ⟨w3.heap.size, 0, none⟩) 2 2 [97, 63] (hasB_new w3 [97, 63] _ _ rfl) HG4.out rfl (by omega) (by omega) (by omega))
  generalize parseS [97, 63] = l2 at *
  have HB4 := Lib.hid (HB3.out.trans (((Below.refl w3.heap.size w3).alloc (Nat.le_refl _) (.cells #[.int .u8 97, .int .u8 63] 5 (2, 3))).mono HB3.out.size))
  clear hb3
  go_wp2_with fail
  generalize w3.alloc (.cells #[.int .u8 97, .int .u8 63] 5 (2, 3)) = W4 at *
  refine HC4.out.mono ?_; rintro e w5 ⟨rfl, v5, hp5⟩
  have HP5 := Lib.hid hp5
  have HB5 := Lib.hid (HB4.out.trans (hp5.b.mono HB4.out.size))
  clear hp5 HC4
  go_wp2_with fail
  refine (match_read HP5.out (by have := HL2.out; simp at this; omega) _ ((Below.refl _ _).alloc (Nat.le_refl _) _) (some ⟨w5.heap.size, 0, none⟩) 1 1 [97] (hasB_new w5 [97] _ _ rfl) rfl (by omega) (by omega) (by omega)).mono ?_; rintro e w6 ⟨rfl, hb6⟩
  rw [HN.out]
  have HB6 := Lib.hid (HB5.out.trans ((((Below.refl w5.heap.size w5).alloc (Nat.le_refl _) _).trans (hb6.mono (by simp))).mono HB5.out.size))
  clear hb6
  go_wp2_with fail
  go_ret
  exact ⟨rfl, HB6.out⟩
end Go.Proofs.YtafmhhhboihdfaaDoor
