/-
  The law GmatchWhole: its walk. Conditions: those that each theorem names. Printed by gen_whole.py.
-/
import Derived.Test.YtafmhhhboihdfaaDoorSuffix
import Derived.Test.YtafmhhhboihdfaaDoorLawStars
namespace Go.Proofs.YtafmhhhboihdfaaDoor
open Go.RowKit
set_option linter.unusedVariables false
/-- behind the reading: from where the end matches -/
theorem suffix_read {w W : World} {v : Value} {l : List Pc} (h : PtW w W v l) (hl : l.length ≤ 4096) (W' : World) (hb : Below W.heap.size W W') (aS : Option Addr) (m capS : Nat) (bs : List UInt8) (longest : Bool) (hbs : HasB W' aS bs) (hm : bs.length = m) (hms : m ≤ capS) (hcs : capS ≤ 140737488351232) :
    Calls Tryd.prog 22 #[.pointer (some ⟨w.heap.size, 0, none⟩), .slice aS m capS, .bool longest] W' fun e w' => e = .returned (.tuple #[.int .i64 (suffS l bs longest).1, .bool (suffS l bs longest).2]) ∧ Below W'.heap.size W' w' := by
  obtain ⟨a, cap, -, hq, hp⟩ := (h.below hb).out
  exact suffix_any W' w.heap.size W'.heap.size a l.length cap l aS m capS bs longest rfl hl hq hp (Nat.le_refl _) hbs hm hms hcs
set_option maxRecDepth 100000 in
set_option maxHeartbeats 1600000 in
theorem whole_nil (w : World) (aB : Option Addr) (mB capB : Nat) (aS : Option Addr) (m capS : Nat) (hg : Glob w) (hcB : mB ≤ capB) (hrB : capB ≤ 140737488351232)
    (hc : m ≤ capS) (hr : capS ≤ 140737488351232) (h256 : 256 < mB) :
    Calls Tryd.prog 7 #[.slice aB mB capB, .slice aS m capS] w fun e w' => e = .returned (.bool true) ∧ Below w.heap.size w w' := by
  have HF := Lib.hid (few_any w aS m capS hc hr)
  have HC := Lib.hid (pread_long w aB mB capB hg h256 hcB (by omega))
  have HG := Lib.hid hg
  clear hg
  generalize min m 60 = k at *
  go_enter Tryd.func7, Tryd.ntmps7
  go_wp2_with fail
  refine HF.out.mono ?_; rintro e w' ⟨rfl, rfl⟩
  go_wp2_with fail
  refine HC.out.mono ?_; rintro e w1 ⟨rfl, hb1⟩
  have HB1 := Lib.hid hb1
  clear hb1
  go_wp2_with fail
  refine (match_nil w1 aS k capS).mono ?_; rintro e w' ⟨rfl, rfl⟩
  go_wp2_with fail
  refine (prefix_nil w1 aS k capS true).mono ?_; rintro e w2 ⟨rfl, hb2⟩
  have HB2 := Lib.hid (HB1.out.trans (hb2.mono HB1.out.size))
  clear hb2
  go_wp2_with fail
  refine (prefix_nil w2 aS k capS false).mono ?_; rintro e w3 ⟨rfl, hb3⟩
  have HB3 := Lib.hid (HB2.out.trans (hb3.mono HB2.out.size))
  clear hb3
  go_wp2_with fail
  refine (suffix_nil w3 aS k capS true).mono ?_; rintro e w4 ⟨rfl, hb4⟩
  have HB4 := Lib.hid (HB3.out.trans (hb4.mono HB3.out.size))
  clear hb4
  go_wp2_with fail
  refine (suffix_nil w4 aS k capS false).mono ?_; rintro e w5 ⟨rfl, hb5⟩
  have HB5 := Lib.hid (HB4.out.trans (hb5.mono HB4.out.size))
  have HA := Lib.hid (awake_any w5 (HG.out.below' HB5.out))
  clear hb5
  go_wp2_with fail
  refine HA.out.mono ?_; rintro e w6 ⟨rfl, hb6⟩
  have HB6 := Lib.hid (HB5.out.trans (hb6.mono HB5.out.size))
  clear hb6
  go_wp2_with fail
  go_ret
  exact ⟨rfl, HB6.out⟩
set_option maxRecDepth 100000 in
set_option maxHeartbeats 3200000 in
theorem whole_on (w : World) (aB : Option Addr) (mB capB : Nat) (b : List UInt8) (aS : Option Addr) (m capS : Nat) (s : List UInt8) (hg : Glob w) (hb : HasB w aB b) (hmB : b.length = mB) (hcB : mB ≤ capB) (hrB : capB ≤ 140737488351232)
    (hs : HasB w aS s) (hm : s.length = m) (hc : m ≤ capS) (hr : capS ≤ 140737488351232) (h256 : mB ≤ 256) :
    Calls Tryd.prog 7 #[.slice aB mB capB, .slice aS m capS] w fun e w' => e = .returned (.bool true) ∧ Below w.heap.size w w' := by
  have HF := Lib.hid (few_any w aS m capS hc hr)
  have HC := Lib.hid (pread_any w aB mB capB b hb hg hmB hcB (by omega) h256)
  have HG := Lib.hid hg
  have HS := Lib.hid (hs.pre 60)
  have HM := Lib.hid (show (s.take 60).length = min m 60 by rw [List.length_take, hm]; omega)
  have hk : min m 60 ≤ 60 := by omega
  have hk2 : min m 60 ≤ capS := by omega
  have hln : (parseS b).length ≤ 256 := by have := parse_len _ b (Nat.le_refl _); omega
  clear hg hb hmB hs hm
  generalize min m 60 = k at *
  generalize s.take 60 = S at *
  generalize parseS b = l at *
  have HE1 := Lib.hid (mat_pref l S)
  have HE2 := Lib.hid (mat_suff l S)
  have HE3 := Lib.hid (pref_both l S)
  have HE4 := Lib.hid (suff_both l S)
  have HE5 := Lib.hid (pref_order l S)
  have HE6 := Lib.hid (suff_order l S)
  have HD1 := Lib.hid (prefS_bd l S true)
  have HD2 := Lib.hid (prefS_bd l S false)
  have HD3 := Lib.hid (suffS_bd l S true)
  have HD4 := Lib.hid (suffS_bd l S false)
  have HA1 := Lib.hid (pref_at l S true)
  have HA2 := Lib.hid (pref_at l S false)
  have HA3 := Lib.hid (suff_at l S true)
  have HA4 := Lib.hid (suff_at l S false)
  rw [HM.out] at HD1 HD2 HD3 HD4 HE1
  have CM := Lib.hid (fun (w1 : World) (v : Value) (hp : PtW w w1 v l) (W : World) (hb : Below w1.heap.size w1 W) (hb0 : Below w.heap.size w W) => match_read hp (by omega) W hb aS k capS S (HS.out.below hb0) HM.out (by omega) hk2 (by omega))
  have CP := Lib.hid (fun (w1 : World) (v : Value) (hp : PtW w w1 v l) (W : World) (hb : Below w1.heap.size w1 W) (hb0 : Below w.heap.size w W) (t : Bool) => prefix_read hp (by omega) W hb aS k capS S t (HS.out.below hb0) HM.out hk2 hr)
  have CS := Lib.hid (fun (w1 : World) (v : Value) (hp : PtW w w1 v l) (W : World) (hb : Below w1.heap.size w1 W) (hb0 : Below w.heap.size w W) (t : Bool) => suffix_read hp (by omega) W hb aS k capS S t (HS.out.below hb0) HM.out hk2 hr)
  have CH := Lib.hid (fun (w1 : World) (v : Value) (hp : PtW w w1 v l) (W : World) (hb : Below w1.heap.size w1 W) (hb0 : Below w.heap.size w W) (x : Nat) (hx : x ≤ k) => match_read hp (by omega) W hb aS x capS (S.take x) ((HS.out.pre x).below hb0) (by rw [List.length_take, HM.out]; omega) (by omega) (by omega) (by omega))
  have CT := Lib.hid (fun (w1 : World) (v : Value) (hp : PtW w w1 v l) (W : World) (hb : Below w1.heap.size w1 W) (hb0 : Below w.heap.size w W) (x : Nat) (hx : x ≤ k) (A : Option Addr) (hA : HasB W A (S.drop x)) => match_read hp (by omega) W hb A (k - x) (capS - x) (S.drop x) hA (by rw [List.length_drop, HM.out]) (by omega) (by omega) (by omega))
  obtain ⟨M, hM⟩ : ∃ M, mat l S = M := ⟨_, rfl⟩
  obtain ⟨X, hX⟩ : ∃ X, prefS l S true = X := ⟨_, rfl⟩
  obtain ⟨Y, hY⟩ : ∃ Y, prefS l S false = Y := ⟨_, rfl⟩
  obtain ⟨U, hU⟩ : ∃ U, suffS l S true = U := ⟨_, rfl⟩
  obtain ⟨V, hV⟩ : ∃ V, suffS l S false = V := ⟨_, rfl⟩
  have HMX := Lib.hid hM
  have HX := Lib.hid hX
  have HY := Lib.hid hY
  have HU := Lib.hid hU
  have HV := Lib.hid hV
  rw [hM] at HE1 HE2
  rw [hX] at HE1 HE3 HE5 HD1 HA1
  rw [hY] at HE3 HE5 HD2 HA2
  rw [hU] at HE2 HE4 HE6 HD3 HA3
  rw [hV] at HE4 HE6 HD4 HA4
  clear hM hX hY hU hV
  obtain ⟨x, ok⟩ := X
  obtain ⟨y, ok'⟩ := Y
  obtain ⟨u, on⟩ := U
  obtain ⟨v, on'⟩ := V
  obtain rfl : ok = ok' := HE3.out
  obtain rfl : on = on' := HE4.out
  clear HE3 HE4
  have hx : x ≤ k := HD1.out
  have hy : y ≤ k := HD2.out
  have hu : u ≤ k := HD3.out
  have hv : v ≤ k := HD4.out
  have ix : ¬ ((k : Int) < (x : Int)) := by omega
  have iy : ¬ ((k : Int) < (v : Int)) := by omega
  have ix2 : (x : Int) ≤ (capS : Int) := by omega
  have iy2 : (y : Int) ≤ (capS : Int) := by omega
  have iu2 : (u : Int) ≤ (k : Int) := by omega
  have iv2 : (v : Int) ≤ (k : Int) := by omega
  clear HD1 HD2 HD3 HD4
  go_enter Tryd.func7, Tryd.ntmps7
  go_wp2_with fail
  refine HF.out.mono ?_; rintro e w' ⟨rfl, rfl⟩
  go_wp2_with fail
  refine HC.out.mono ?_; rintro e w1 ⟨rfl, vv, hp⟩
  have HP := Lib.hid hp
  have HB1 := Lib.hid hp.b
  clear hp HC HF
  go_wp2_with fail
  have HQ1 := Lib.hid (Below.refl w1.heap.size w1)
  refine (CM.out _ _ HP.out w1 HQ1.out HB1.out).mono ?_; rintro e w2 ⟨rfl, hb2⟩
  have HQ2 := Lib.hid (HQ1.out.trans (hb2.mono HQ1.out.size))
  have HB2 := Lib.hid (HB1.out.trans (hb2.mono HB1.out.size))
  rw [HMX.out]
  clear hb2
  go_wp2_with fail
  refine (CP.out _ _ HP.out w2 HQ2.out HB2.out true).mono ?_; rintro e w3 ⟨rfl, hb3⟩
  have HQ3 := Lib.hid (HQ2.out.trans (hb3.mono HQ2.out.size))
  have HB3 := Lib.hid (HB2.out.trans (hb3.mono HB2.out.size))
  rw [HX.out]
  clear hb3
  go_wp2_with fail
  refine (CP.out _ _ HP.out w3 HQ3.out HB3.out false).mono ?_; rintro e w4 ⟨rfl, hb4⟩
  have HQ4 := Lib.hid (HQ3.out.trans (hb4.mono HQ3.out.size))
  have HB4 := Lib.hid (HB3.out.trans (hb4.mono HB3.out.size))
  rw [HY.out]
  clear hb4
  go_wp2_with fail
  refine (CS.out _ _ HP.out w4 HQ4.out HB4.out true).mono ?_; rintro e w5 ⟨rfl, hb5⟩
  have HQ5 := Lib.hid (HQ4.out.trans (hb5.mono HQ4.out.size))
  have HB5 := Lib.hid (HB4.out.trans (hb5.mono HB4.out.size))
  rw [HU.out]
  clear hb5
  go_wp2_with fail
  cases ok <;> cases on
  · obtain rfl : M = false := HE1.out
    -- ok = false, on = false, M = false
    refine (CS.out _ _ HP.out w5 HQ5.out HB5.out false).mono ?_; rintro e w6 ⟨rfl, hb6⟩
    have HQ6 := Lib.hid (HQ5.out.trans (hb6.mono HQ5.out.size))
    have HB6 := Lib.hid (HB5.out.trans (hb6.mono HB5.out.size))
    rw [HV.out]
    clear hb6
    go_wp2_with fail
    refine (awake_any w6 (HG.out.below' HB6.out)).mono ?_; rintro e wz ⟨rfl, hbz⟩
    have HBZ := Lib.hid (HB6.out.trans (hbz.mono HB6.out.size))
    clear hbz
    go_wp2_with fail
    go_ret
    exact ⟨rfl, HBZ.out⟩
  · obtain rfl : M = false := HE1.out
    have hu0 : ¬ u = 0 := by have := HE2.out; simpa using this.symm
    -- ok = false, on = true, M = false
    have ivu : ¬ ((v : Int) < (u : Int)) := by have : u ≤ v := HE6.out rfl; omega
    have HAU := Lib.hid (HA3.out rfl)
    have HAV := Lib.hid (HA4.out rfl)
    obtain ⟨A1, hA1, hS1⟩ := tail_any aS k capS u hu hk2 (by omega)
    obtain ⟨A2, hA2, hS2⟩ := tail_any aS k capS v hv hk2 (by omega)
    have HS1 := Lib.hid hS1
    have HS2 := Lib.hid hS2
    clear hS1 hS2
    have ieu : ((u : Int) == 0) = false := by simp; omega
    refine (CS.out _ _ HP.out w5 HQ5.out HB5.out false).mono ?_; rintro e w6 ⟨rfl, hb6⟩
    have HQ6 := Lib.hid (HQ5.out.trans (hb6.mono HQ5.out.size))
    have HB6 := Lib.hid (HB5.out.trans (hb6.mono HB5.out.size))
    rw [HV.out]
    clear hb6
    go_wp2_with fail
    refine (CT.out _ _ HP.out w6 HQ6.out HB6.out u hu A1 (HS1.out w6 S HM.out (HS.out.below HB6.out))).mono ?_; rintro e w7 ⟨rfl, hb7⟩
    have HQ7 := Lib.hid (HQ6.out.trans (hb7.mono HQ6.out.size))
    have HB7 := Lib.hid (HB6.out.trans (hb7.mono HB6.out.size))
    rw [HAU.out]
    clear hb7
    go_wp2_with fail
    refine (CT.out _ _ HP.out w7 HQ7.out HB7.out v hv A2 (HS2.out w7 S HM.out (HS.out.below HB7.out))).mono ?_; rintro e w8 ⟨rfl, hb8⟩
    have HQ8 := Lib.hid (HQ7.out.trans (hb8.mono HQ7.out.size))
    have HB8 := Lib.hid (HB7.out.trans (hb8.mono HB7.out.size))
    rw [HAV.out]
    clear hb8
    go_wp2_with fail
    refine (awake_any w8 (HG.out.below' HB8.out)).mono ?_; rintro e wz ⟨rfl, hbz⟩
    have HBZ := Lib.hid (HB8.out.trans (hbz.mono HB8.out.size))
    clear hbz
    go_wp2_with fail
    go_ret
    exact ⟨rfl, HBZ.out⟩
  · obtain rfl : M = false := HE2.out
    have hxk : ¬ x = k := by have := HE1.out; simpa using this.symm
    -- ok = true, on = false, M = false
    have iyx : ¬ ((x : Int) < (y : Int)) := by have : y ≤ x := HE5.out rfl; omega
    have HAX := Lib.hid (HA1.out rfl)
    have HAY := Lib.hid (HA2.out rfl)
    have ieq : ((x : Int) == (k : Int)) = false := by simp; omega
    refine (CS.out _ _ HP.out w5 HQ5.out HB5.out false).mono ?_; rintro e w6 ⟨rfl, hb6⟩
    have HQ6 := Lib.hid (HQ5.out.trans (hb6.mono HQ5.out.size))
    have HB6 := Lib.hid (HB5.out.trans (hb6.mono HB5.out.size))
    rw [HV.out]
    clear hb6
    go_wp2_with fail
    refine (CH.out _ _ HP.out w6 HQ6.out HB6.out x hx).mono ?_; rintro e w7 ⟨rfl, hb7⟩
    have HQ7 := Lib.hid (HQ6.out.trans (hb7.mono HQ6.out.size))
    have HB7 := Lib.hid (HB6.out.trans (hb7.mono HB6.out.size))
    rw [HAX.out]
    clear hb7
    go_wp2_with fail
    refine (CH.out _ _ HP.out w7 HQ7.out HB7.out y hy).mono ?_; rintro e w8 ⟨rfl, hb8⟩
    have HQ8 := Lib.hid (HQ7.out.trans (hb8.mono HQ7.out.size))
    have HB8 := Lib.hid (HB7.out.trans (hb8.mono HB7.out.size))
    rw [HAY.out]
    clear hb8
    go_wp2_with fail
    refine (awake_any w8 (HG.out.below' HB8.out)).mono ?_; rintro e wz ⟨rfl, hbz⟩
    have HBZ := Lib.hid (HB8.out.trans (hbz.mono HB8.out.size))
    clear hbz
    go_wp2_with fail
    go_ret
    exact ⟨rfl, HBZ.out⟩
  · cases M
    · have hxk : ¬ x = k := by have := HE1.out; simpa using this.symm
      have hu0 : ¬ u = 0 := by have := HE2.out; simpa using this.symm
      -- ok = true, on = true, M = false
      have iyx : ¬ ((x : Int) < (y : Int)) := by have : y ≤ x := HE5.out rfl; omega
      have HAX := Lib.hid (HA1.out rfl)
      have HAY := Lib.hid (HA2.out rfl)
      have ieq : ((x : Int) == (k : Int)) = false := by simp; omega
      have ivu : ¬ ((v : Int) < (u : Int)) := by have : u ≤ v := HE6.out rfl; omega
      have HAU := Lib.hid (HA3.out rfl)
      have HAV := Lib.hid (HA4.out rfl)
      obtain ⟨A1, hA1, hS1⟩ := tail_any aS k capS u hu hk2 (by omega)
      obtain ⟨A2, hA2, hS2⟩ := tail_any aS k capS v hv hk2 (by omega)
      have HS1 := Lib.hid hS1
      have HS2 := Lib.hid hS2
      clear hS1 hS2
      have ieu : ((u : Int) == 0) = false := by simp; omega
      refine (CS.out _ _ HP.out w5 HQ5.out HB5.out false).mono ?_; rintro e w6 ⟨rfl, hb6⟩
      have HQ6 := Lib.hid (HQ5.out.trans (hb6.mono HQ5.out.size))
      have HB6 := Lib.hid (HB5.out.trans (hb6.mono HB5.out.size))
      rw [HV.out]
      clear hb6
      go_wp2_with fail
      refine (CH.out _ _ HP.out w6 HQ6.out HB6.out x hx).mono ?_; rintro e w7 ⟨rfl, hb7⟩
      have HQ7 := Lib.hid (HQ6.out.trans (hb7.mono HQ6.out.size))
      have HB7 := Lib.hid (HB6.out.trans (hb7.mono HB6.out.size))
      rw [HAX.out]
      clear hb7
      go_wp2_with fail
      refine (CH.out _ _ HP.out w7 HQ7.out HB7.out y hy).mono ?_; rintro e w8 ⟨rfl, hb8⟩
      have HQ8 := Lib.hid (HQ7.out.trans (hb8.mono HQ7.out.size))
      have HB8 := Lib.hid (HB7.out.trans (hb8.mono HB7.out.size))
      rw [HAY.out]
      clear hb8
      go_wp2_with fail
      refine (CT.out _ _ HP.out w8 HQ8.out HB8.out u hu A1 (HS1.out w8 S HM.out (HS.out.below HB8.out))).mono ?_; rintro e w9 ⟨rfl, hb9⟩
      have HQ9 := Lib.hid (HQ8.out.trans (hb9.mono HQ8.out.size))
      have HB9 := Lib.hid (HB8.out.trans (hb9.mono HB8.out.size))
      rw [HAU.out]
      clear hb9
      go_wp2_with fail
      refine (CT.out _ _ HP.out w9 HQ9.out HB9.out v hv A2 (HS2.out w9 S HM.out (HS.out.below HB9.out))).mono ?_; rintro e w10 ⟨rfl, hb10⟩
      have HQ10 := Lib.hid (HQ9.out.trans (hb10.mono HQ9.out.size))
      have HB10 := Lib.hid (HB9.out.trans (hb10.mono HB9.out.size))
      rw [HAV.out]
      clear hb10
      go_wp2_with fail
      refine (awake_any w10 (HG.out.below' HB10.out)).mono ?_; rintro e wz ⟨rfl, hbz⟩
      have HBZ := Lib.hid (HB10.out.trans (hbz.mono HB10.out.size))
      clear hbz
      go_wp2_with fail
      go_ret
      exact ⟨rfl, HBZ.out⟩
    · have hxk : x = k := by have := HE1.out; simpa using this.symm
      have hu0 : u = 0 := by have := HE2.out; simpa using this.symm
      have HXK := Lib.hid hxk
      have HU0 := Lib.hid hu0
      -- ok = true, on = true, M = true
      have iyx : ¬ ((x : Int) < (y : Int)) := by have : y ≤ x := HE5.out rfl; omega
      have HAX := Lib.hid (HA1.out rfl)
      have HAY := Lib.hid (HA2.out rfl)
      have ieq : ((x : Int) == (k : Int)) = true := by simp; omega
      have ivu : ¬ ((v : Int) < (u : Int)) := by have : u ≤ v := HE6.out rfl; omega
      have HAU := Lib.hid (HA3.out rfl)
      have HAV := Lib.hid (HA4.out rfl)
      obtain ⟨A1, hA1, hS1⟩ := tail_any aS k capS u hu hk2 (by omega)
      obtain ⟨A2, hA2, hS2⟩ := tail_any aS k capS v hv hk2 (by omega)
      have HS1 := Lib.hid hS1
      have HS2 := Lib.hid hS2
      clear hS1 hS2
      have ieu : ((u : Int) == 0) = true := by simp; omega
      clear hxk hu0
      refine (CS.out _ _ HP.out w5 HQ5.out HB5.out false).mono ?_; rintro e w6 ⟨rfl, hb6⟩
      have HQ6 := Lib.hid (HQ5.out.trans (hb6.mono HQ5.out.size))
      have HB6 := Lib.hid (HB5.out.trans (hb6.mono HB5.out.size))
      rw [HV.out]
      clear hb6
      go_wp2_with fail
      refine (CH.out _ _ HP.out w6 HQ6.out HB6.out x hx).mono ?_; rintro e w7 ⟨rfl, hb7⟩
      have HQ7 := Lib.hid (HQ6.out.trans (hb7.mono HQ6.out.size))
      have HB7 := Lib.hid (HB6.out.trans (hb7.mono HB6.out.size))
      rw [HAX.out]
      clear hb7
      go_wp2_with fail
      refine (CH.out _ _ HP.out w7 HQ7.out HB7.out y hy).mono ?_; rintro e w8 ⟨rfl, hb8⟩
      have HQ8 := Lib.hid (HQ7.out.trans (hb8.mono HQ7.out.size))
      have HB8 := Lib.hid (HB7.out.trans (hb8.mono HB7.out.size))
      rw [HAY.out]
      clear hb8
      go_wp2_with fail
      refine (CT.out _ _ HP.out w8 HQ8.out HB8.out u hu A1 (HS1.out w8 S HM.out (HS.out.below HB8.out))).mono ?_; rintro e w9 ⟨rfl, hb9⟩
      have HQ9 := Lib.hid (HQ8.out.trans (hb9.mono HQ8.out.size))
      have HB9 := Lib.hid (HB8.out.trans (hb9.mono HB8.out.size))
      rw [HAU.out]
      clear hb9
      go_wp2_with fail
      refine (CT.out _ _ HP.out w9 HQ9.out HB9.out v hv A2 (HS2.out w9 S HM.out (HS.out.below HB9.out))).mono ?_; rintro e w10 ⟨rfl, hb10⟩
      have HQ10 := Lib.hid (HQ9.out.trans (hb10.mono HQ9.out.size))
      have HB10 := Lib.hid (HB9.out.trans (hb10.mono HB9.out.size))
      rw [HAV.out]
      clear hb10
      go_wp2_with fail
      refine (awake_any w10 (HG.out.below' HB10.out)).mono ?_; rintro e wz ⟨rfl, hbz⟩
      have HBZ := Lib.hid (HB10.out.trans (hbz.mono HB10.out.size))
      clear hbz
      go_wp2_with fail
      go_ret
      exact ⟨rfl, HBZ.out⟩
theorem GmatchWhole_walk (w : World) (aB : Option Addr) (mB capB : Nat) (b : List UInt8) (aS : Option Addr) (m capS : Nat) (s : List UInt8) (hg : Glob w) (hb : HasB w aB b) (hmB : b.length = mB) (hcB : mB ≤ capB) (hrB : capB ≤ 140737488351232)
    (hs : HasB w aS s) (hm : s.length = m) (hc : m ≤ capS) (hr : capS ≤ 140737488351232) :
    Calls Tryd.prog 7 #[.slice aB mB capB, .slice aS m capS] w fun e w' => e = .returned (.bool true) ∧ Below w.heap.size w w' := by
  rcases Nat.lt_or_ge 256 mB with h1 | h1
  · exact whole_nil w aB mB capB aS m capS hg hcB hrB hc hr h1
  · exact whole_on w aB mB capB b aS m capS s hg hb hmB hcB hrB hs hm hc hr h1
end Go.Proofs.YtafmhhhboihdfaaDoor
