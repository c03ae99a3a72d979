/-
  The law GmatchSteps: its walk. Conditions: those that each theorem names.
-/
import Derived.Test.YtafmhhhboihdfaaDoorAwake
namespace Go.Proofs.YtafmhhhboihdfaaDoor
open Go.RowKit
set_option linter.unusedVariables false
theorem HasB.pre {w : World} {a : Option Addr} {l : List UInt8} (h : HasB w a l) (n : Nat) : HasB w a (l.take n) := by
  rcases h with h | ⟨b, off, h1, h2, h3⟩
  · exact .inl (by rw [h]; simp)
  · exact .inr ⟨b, off, h1, h2, fun i hi => by rw [List.getElem_take]; exact h3 i (by simp at hi; omega)⟩
theorem mul_bd (s m n : Int) (h0 : 0 ≤ s) (h1 : s ≤ m * n) (hm : 0 ≤ m) (hn : 0 ≤ n) : s ≤ (m + 1) * (n + 1) := by
  have : (m + 1) * (n + 1) = m * n + m + n + 1 := by rw [Int.add_mul, Int.mul_add]; omega
  omega
/-- behind the reading: how often, how many pieces, and that all is awake -/
theorem steps_read {w W : World} {v : Value} {l : List Pc} (h : PtW w W v l) (hl : l.length ≤ 4096) (W' : World) (hb : Below W.heap.size W W') (aS : Option Addr) (m capS : Nat) (bs : List UInt8) (hbs : HasB W' aS bs) (hm : bs.length = m) (hms : m ≤ capS) (hcs : capS ≤ 140737488351232) :
    Calls Tryd.prog 12 #[.pointer (some ⟨w.heap.size, 0, none⟩), .slice aS m capS] W' fun e w' => e = .returned (.int .i64 (sAt l bs m)) ∧ Below W'.heap.size W' w' := by
  obtain ⟨a, cap, -, hq, hp⟩ := (h.below hb).out
  exact steps_any W' w.heap.size W'.heap.size a l.length cap l aS m capS bs rfl hl hq hp hbs hm hms hcs
theorem pieces_read {w W : World} {v : Value} {l : List Pc} (h : PtW w W v l) (hl : l.length ≤ 4096) (W' : World) (hb : Below W.heap.size W W') :
    Calls Tryd.prog 13 #[.pointer (some ⟨w.heap.size, 0, none⟩)] W' fun e w' => ∃ a' cap', e = .returned (.slice a' l.length cap') ∧ Below W'.heap.size W' w' := by
  obtain ⟨a, cap, -, hq, hp⟩ := (h.below hb).out
  exact (pieces_any W' w.heap.size W'.heap.size a l.length cap l rfl hq hp (by omega)).mono fun e w' ⟨a', cap', h1, h2, h3, h4, h5⟩ => ⟨a', cap', h1, h5⟩

set_option maxRecDepth 100000 in
set_option maxHeartbeats 1600000 in
theorem steps_few (w : World) (aB : Option Addr) (mB capB : Nat) (b : List UInt8) (aS : Option Addr) (m capS : Nat) (s : List UInt8) (hg : Glob w) (hb : HasB w aB b) (hmB : b.length = mB) (hcB : mB ≤ capB) (hrB : capB ≤ 140737488351232)
    (hs : HasB w aS s) (hm : s.length = m) (hc : m ≤ capS) (hr : capS ≤ 140737488351232) (h256 : mB ≤ 256) (h4000 : m ≤ 4000) :
    Calls Tryd.prog 3 #[.slice aB mB capB, .slice aS m capS] w fun e w' => e = .returned (.bool true) ∧ Below w.heap.size w w' := by
  have HC := Lib.hid (pread_any w aB mB capB b hb hg hmB hcB (by omega) h256)
  have HG := Lib.hid hg
  have HS := Lib.hid hs
  have HM := Lib.hid hm
  have hln : (parseS b).length ≤ 256 := by have := parse_len _ b (Nat.le_refl _); omega
  generalize parseS b = l at *
  have hI : ¬ (4000 : Int) < (m : Int) := by omega
  clear hg hb hmB hs hm
  go_enter Tryd.func3, Tryd.ntmps3
  go_wp2_with fail
  refine HC.out.mono ?_; rintro e w1 ⟨rfl, v, hp⟩
  have HP := Lib.hid hp
  have HB1 := Lib.hid hp.b
  clear hp HC
  go_wp2_with fail
  refine (steps_read HP.out (by omega) w1 (Below.refl _ _) aS m capS s (HS.out.below HB1.out) HM.out (by omega) hr).mono ?_; rintro e w2 ⟨rfl, hb2⟩
  have hbd := sAt_bd l s m
  have HB2 := Lib.hid (HB1.out.trans (hb2.mono HB1.out.size))
  have HB12 := Lib.hid hb2
  have hx0 := hbd.1
  have hx1 : sAt l s m ≤ ((m : Int) + 1) * ((l.length : Int) + 1) := mul_bd _ _ _ hbd.1 hbd.2 (by omega) (by omega)
  obtain ⟨Y, hY⟩ : ∃ Y : Int, ((m : Int) + 1) * ((l.length : Int) + 1) = Y := ⟨_, rfl⟩
  have hY1 : Y ≤ 4001 * 257 := by rw [← hY]; exact Int.mul_le_mul (by omega) (by omega) (by omega) (by omega)
  rw [hY] at hx1
  clear hb2 hbd
  generalize sAt l s m = x at *
  skip
  go_wp2_with fail
  refine (pieces_read HP.out (by omega) w2 HB12.out).mono ?_; rintro e w3 ⟨a', cap', rfl, hb3⟩
  have HB3 := Lib.hid (HB2.out.trans (hb3.mono HB2.out.size))
  clear hb3
  go_wp2_with fail
  refine (awake_any w3 (HG.out.below' HB3.out)).mono ?_; rintro e w4 ⟨rfl, hb4⟩
  have HB4 := Lib.hid (HB3.out.trans (hb4.mono HB3.out.size))
  clear hb4
  go_wp2_with fail
  go_ret
  exact ⟨rfl, HB4.out⟩

set_option maxRecDepth 100000 in
set_option maxHeartbeats 1600000 in
theorem steps_none_few (w : World) (aB : Option Addr) (mB capB : Nat) (b : List UInt8) (aS : Option Addr) (m capS : Nat) (s : List UInt8) (hg : Glob w) (hb : HasB w aB b) (hmB : b.length = mB) (hcB : mB ≤ capB) (hrB : capB ≤ 140737488351232)
    (hs : HasB w aS s) (hm : s.length = m) (hc : m ≤ capS) (hr : capS ≤ 140737488351232) (h256 : 256 < mB) (h4000 : m ≤ 4000) :
    Calls Tryd.prog 3 #[.slice aB mB capB, .slice aS m capS] w fun e w' => e = .returned (.bool true) ∧ Below w.heap.size w w' := by
  have HC := Lib.hid (pread_long w aB mB capB hg h256 hcB (by omega))
  have HG := Lib.hid hg
  have hI : ¬ (4000 : Int) < (m : Int) := by omega
  clear hg hb hmB hs hm
  go_enter Tryd.func3, Tryd.ntmps3
  go_wp2_with fail
  refine HC.out.mono ?_; rintro e w1 ⟨rfl, hb1⟩
  have HB1 := Lib.hid hb1
  clear hb1 HC
  go_wp2_with fail
  refine (steps_nil w1 aS m capS).mono ?_; rintro e w2 ⟨rfl, rfl⟩
  go_wp2_with fail
  refine (pieces_nil w1).mono ?_; rintro e w3 ⟨rfl, rfl⟩
  go_wp2_with fail
  refine (awake_any w1 (HG.out.below' HB1.out)).mono ?_; rintro e w4 ⟨rfl, hb4⟩
  have HB4 := Lib.hid (HB1.out.trans (hb4.mono HB1.out.size))
  clear hb4
  go_wp2_with fail
  go_ret
  exact ⟨rfl, HB4.out⟩

set_option maxRecDepth 100000 in
set_option maxHeartbeats 1600000 in
theorem steps_big (w : World) (aB : Option Addr) (mB capB : Nat) (b : List UInt8) (aS : Option Addr) (m capS : Nat) (s : List UInt8) (hg : Glob w) (hb : HasB w aB b) (hmB : b.length = mB) (hcB : mB ≤ capB) (hrB : capB ≤ 140737488351232)
    (hs : HasB w aS s) (hm : s.length = m) (hc : m ≤ capS) (hr : capS ≤ 140737488351232) (h256 : mB ≤ 256) (h4000 : 4000 < m) :
    Calls Tryd.prog 3 #[.slice aB mB capB, .slice aS m capS] w fun e w' => e = .returned (.bool true) ∧ Below w.heap.size w w' := by
  have HC := Lib.hid (pread_any w aB mB capB b hb hg hmB hcB (by omega) h256)
  have HG := Lib.hid hg
  have HS := Lib.hid hs
  have HM := Lib.hid hm
  have hln : (parseS b).length ≤ 256 := by have := parse_len _ b (Nat.le_refl _); omega
  generalize parseS b = l at *
  have hI : (4000 : Int) < (m : Int) := by omega
  have hI2 : (4000 : Int) ≤ (capS : Int) := by omega
  clear hg hb hmB hs hm
  go_enter Tryd.func3, Tryd.ntmps3
  go_wp2_with fail
  refine HC.out.mono ?_; rintro e w1 ⟨rfl, v, hp⟩
  have HP := Lib.hid hp
  have HB1 := Lib.hid hp.b
  clear hp HC
  go_wp2_with fail
  refine (steps_read HP.out (by omega) w1 (Below.refl _ _) aS 4000 capS (s.take 4000) ((HS.out.pre 4000).below HB1.out) (by rw [List.length_take, HM.out]; omega) (by omega) hr).mono ?_; rintro e w2 ⟨rfl, hb2⟩
  have hbd := sAt_bd l (s.take 4000) 4000
  have HB2 := Lib.hid (HB1.out.trans (hb2.mono HB1.out.size))
  have HB12 := Lib.hid hb2
  have hx0 := hbd.1
  have hx1 : sAt l (s.take 4000) 4000 ≤ (4000 + 1) * ((l.length : Int) + 1) := mul_bd _ _ _ hbd.1 hbd.2 (by omega) (by omega)
  obtain ⟨Y, hY⟩ : ∃ Y : Int, (4000 + 1) * ((l.length : Int) + 1) = Y := ⟨_, rfl⟩
  have hY1 : Y ≤ 4001 * 257 := by rw [← hY]; exact Int.mul_le_mul (by omega) (by omega) (by omega) (by omega)
  rw [hY] at hx1
  clear hb2 hbd
  generalize sAt l (s.take 4000) 4000 = x at *
  have hY2 : (4001 : Int) * ((l.length : Int) + 1) = Y := hY
  go_wp2_with fail
  refine (pieces_read HP.out (by omega) w2 HB12.out).mono ?_; rintro e w3 ⟨a', cap', rfl, hb3⟩
  have HB3 := Lib.hid (HB2.out.trans (hb3.mono HB2.out.size))
  clear hb3
  go_wp2_with fail
  refine (awake_any w3 (HG.out.below' HB3.out)).mono ?_; rintro e w4 ⟨rfl, hb4⟩
  have HB4 := Lib.hid (HB3.out.trans (hb4.mono HB3.out.size))
  clear hb4
  go_wp2_with fail
  go_ret
  exact ⟨rfl, HB4.out⟩

set_option maxRecDepth 100000 in
set_option maxHeartbeats 1600000 in
theorem steps_none_big (w : World) (aB : Option Addr) (mB capB : Nat) (b : List UInt8) (aS : Option Addr) (m capS : Nat) (s : List UInt8) (hg : Glob w) (hb : HasB w aB b) (hmB : b.length = mB) (hcB : mB ≤ capB) (hrB : capB ≤ 140737488351232)
    (hs : HasB w aS s) (hm : s.length = m) (hc : m ≤ capS) (hr : capS ≤ 140737488351232) (h256 : 256 < mB) (h4000 : 4000 < m) :
    Calls Tryd.prog 3 #[.slice aB mB capB, .slice aS m capS] w fun e w' => e = .returned (.bool true) ∧ Below w.heap.size w w' := by
  have HC := Lib.hid (pread_long w aB mB capB hg h256 hcB (by omega))
  have HG := Lib.hid hg
  have hI : (4000 : Int) < (m : Int) := by omega
  have hI2 : (4000 : Int) ≤ (capS : Int) := by omega
  clear hg hb hmB hs hm
  go_enter Tryd.func3, Tryd.ntmps3
  go_wp2_with fail
  refine HC.out.mono ?_; rintro e w1 ⟨rfl, hb1⟩
  have HB1 := Lib.hid hb1
  clear hb1 HC
  go_wp2_with fail
  refine (steps_nil w1 aS 4000 capS).mono ?_; rintro e w2 ⟨rfl, rfl⟩
  go_wp2_with fail
  refine (pieces_nil w1).mono ?_; rintro e w3 ⟨rfl, rfl⟩
  go_wp2_with fail
  refine (awake_any w1 (HG.out.below' HB1.out)).mono ?_; rintro e w4 ⟨rfl, hb4⟩
  have HB4 := Lib.hid (HB1.out.trans (hb4.mono HB1.out.size))
  clear hb4
  go_wp2_with fail
  go_ret
  exact ⟨rfl, HB4.out⟩

theorem GmatchSteps_walk (w : World) (aB : Option Addr) (mB capB : Nat) (b : List UInt8) (aS : Option Addr) (m capS : Nat) (s : List UInt8) (hg : Glob w) (hb : HasB w aB b) (hmB : b.length = mB) (hcB : mB ≤ capB) (hrB : capB ≤ 140737488351232)
    (hs : HasB w aS s) (hm : s.length = m) (hc : m ≤ capS) (hr : capS ≤ 140737488351232) :
    Calls Tryd.prog 3 #[.slice aB mB capB, .slice aS m capS] w fun e w' => e = .returned (.bool true) ∧ Below w.heap.size w w' := by
  rcases Nat.lt_or_ge 256 mB with h1 | h1 <;> rcases Nat.lt_or_ge 4000 m with h2 | h2
  · exact steps_none_big w aB mB capB b aS m capS s hg hb hmB hcB hrB hs hm hc hr h1 h2
  · exact steps_none_few w aB mB capB b aS m capS s hg hb hmB hcB hrB hs hm hc hr h1 h2
  · exact steps_big w aB mB capB b aS m capS s hg hb hmB hcB hrB hs hm hc hr h1 h2
  · exact steps_few w aB mB capB b aS m capS s hg hb hmB hcB hrB hs hm hc hr h1 h2
end Go.Proofs.YtafmhhhboihdfaaDoor
