/-
  The law GmatchCuts: its walk. Conditions: those that each theorem names. Printed by gen_cuts.py.
-/
import Derived.Test.YtafmhhhboihdfaaDoorLawWhole
namespace Go.Proofs.YtafmhhhboihdfaaDoor
open Go.RowKit
set_option linter.unusedVariables false
set_option maxRecDepth 100000 in
set_option maxHeartbeats 1600000 in
theorem cuts_off1 (w : World) (aA : Option Addr) (mA capA : Nat) (a : List UInt8) (aB : Option Addr) (mB capB : Nat) (b : List UInt8) (aS : Option Addr) (m capS : Nat) (s : List UInt8) (hg : Glob w) (ha : HasB w aA a) (hmA : a.length = mA) (hcA : mA ≤ capA) (hrA : capA ≤ 140737488351232)
    (hb : HasB w aB b) (hmB : b.length = mB) (hcB : mB ≤ capB) (hrB : capB ≤ 140737488351232)
    (hs : HasB w aS s) (hm : s.length = m) (hc : m ≤ capS) (hr : capS ≤ 140737488351232) (h1 : 120 < mA) :
    Calls Tryd.prog 8 #[.slice aA mA capA, .slice aB mB capB, .slice aS m capS] w fun e w' => e = .returned (.bool true) ∧ Below w.heap.size w w' := by
  have HF := Lib.hid (few_any w aS m capS hc hr)
  have HA := Lib.hid (awake_any w hg)
  have HO := Lib.hid (open_any w aA mA capA a ha hmA hcA hrA)
  have hI : (120 : Int) < (mA : Int) := by omega
  clear hg ha hmA hb hmB hs hm
  generalize min m 60 = k at *
  go_enter Tryd.func8, Tryd.ntmps8
  go_wp2_with fail
  refine HF.out.mono ?_; rintro e w' ⟨rfl, rfl⟩
  go_wp2_with fail
  refine HA.out.mono ?_; rintro e w' ⟨rfl, hb'⟩
  have HB := Lib.hid hb'
  clear hb'
  go_wp2_with fail
  go_ret
  exact ⟨rfl, HB.out⟩
set_option maxRecDepth 100000 in
set_option maxHeartbeats 1600000 in
theorem cuts_off2 (w : World) (aA : Option Addr) (mA capA : Nat) (a : List UInt8) (aB : Option Addr) (mB capB : Nat) (b : List UInt8) (aS : Option Addr) (m capS : Nat) (s : List UInt8) (hg : Glob w) (ha : HasB w aA a) (hmA : a.length = mA) (hcA : mA ≤ capA) (hrA : capA ≤ 140737488351232)
    (hb : HasB w aB b) (hmB : b.length = mB) (hcB : mB ≤ capB) (hrB : capB ≤ 140737488351232)
    (hs : HasB w aS s) (hm : s.length = m) (hc : m ≤ capS) (hr : capS ≤ 140737488351232) (h1 : mA ≤ 120) (h2 : 120 < mB) :
    Calls Tryd.prog 8 #[.slice aA mA capA, .slice aB mB capB, .slice aS m capS] w fun e w' => e = .returned (.bool true) ∧ Below w.heap.size w w' := by
  have HF := Lib.hid (few_any w aS m capS hc hr)
  have HA := Lib.hid (awake_any w hg)
  have HO := Lib.hid (open_any w aA mA capA a ha hmA hcA hrA)
  have hI : ¬ (120 : Int) < (mA : Int) := by omega
  have hI2 : (120 : Int) < (mB : Int) := by omega
  clear hg ha hmA hb hmB hs hm
  generalize min m 60 = k at *
  go_enter Tryd.func8, Tryd.ntmps8
  go_wp2_with fail
  refine HF.out.mono ?_; rintro e w' ⟨rfl, rfl⟩
  go_wp2_with fail
  refine HA.out.mono ?_; rintro e w' ⟨rfl, hb'⟩
  have HB := Lib.hid hb'
  clear hb'
  go_wp2_with fail
  go_ret
  exact ⟨rfl, HB.out⟩
set_option maxRecDepth 100000 in
set_option maxHeartbeats 1600000 in
theorem cuts_off3 (w : World) (aA : Option Addr) (mA capA : Nat) (a : List UInt8) (aB : Option Addr) (mB capB : Nat) (b : List UInt8) (aS : Option Addr) (m capS : Nat) (s : List UInt8) (hg : Glob w) (ha : HasB w aA a) (hmA : a.length = mA) (hcA : mA ≤ capA) (hrA : capA ≤ 140737488351232)
    (hb : HasB w aB b) (hmB : b.length = mB) (hcB : mB ≤ capB) (hrB : capB ≤ 140737488351232)
    (hs : HasB w aS s) (hm : s.length = m) (hc : m ≤ capS) (hr : capS ≤ 140737488351232) (h1 : mA ≤ 120) (h2 : mB ≤ 120) (h3 : openS a = true) :
    Calls Tryd.prog 8 #[.slice aA mA capA, .slice aB mB capB, .slice aS m capS] w fun e w' => e = .returned (.bool true) ∧ Below w.heap.size w w' := by
  have HF := Lib.hid (few_any w aS m capS hc hr)
  have HA := Lib.hid (awake_any w hg)
  have HO := Lib.hid (open_any w aA mA capA a ha hmA hcA hrA)
  have hI : ¬ (120 : Int) < (mA : Int) := by omega
  have hI2 : ¬ (120 : Int) < (mB : Int) := by omega
  rw [h3] at HO
  clear hg ha hmA hb hmB hs hm
  generalize min m 60 = k at *
  go_enter Tryd.func8, Tryd.ntmps8
  go_wp2_with fail
  refine HF.out.mono ?_; rintro e w' ⟨rfl, rfl⟩
  go_wp2_with fail
  refine HO.out.mono ?_; rintro e w' ⟨rfl, rfl⟩
  go_wp2_with fail
  refine HA.out.mono ?_; rintro e w' ⟨rfl, hb'⟩
  have HB := Lib.hid hb'
  clear hb'
  go_wp2_with fail
  go_ret
  exact ⟨rfl, HB.out⟩
set_option maxRecDepth 100000 in
set_option maxHeartbeats 3200000 in
theorem cuts_on (w : World) (aA : Option Addr) (mA capA : Nat) (a : List UInt8) (aB : Option Addr) (mB capB : Nat) (b : List UInt8) (aS : Option Addr) (m capS : Nat) (s : List UInt8) (hg : Glob w) (ha : HasB w aA a) (hmA : a.length = mA) (hcA : mA ≤ capA) (hrA : capA ≤ 140737488351232)
    (hb : HasB w aB b) (hmB : b.length = mB) (hcB : mB ≤ capB) (hrB : capB ≤ 140737488351232)
    (hs : HasB w aS s) (hm : s.length = m) (hc : m ≤ capS) (hr : capS ≤ 140737488351232) (h1 : mA ≤ 120) (h2 : mB ≤ 120) (h3 : openS a = false) :
    Calls Tryd.prog 8 #[.slice aA mA capA, .slice aB mB capB, .slice aS m capS] w fun e w' => e = .returned (.bool true) ∧ Below w.heap.size w w' := by
  have HF := Lib.hid (few_any w aS m capS hc hr)
  have HO := Lib.hid (open_any w aA mA capA a ha hmA hcA hrA)
  rw [h3] at HO
  have HC := Lib.hid (pread_any w aA mA capA a ha hg hmA hcA (by omega) (by omega))
  have HG := Lib.hid hg
  have HAA := Lib.hid ha
  have HMA := Lib.hid hmA
  have HBB := Lib.hid hb
  have HMB := Lib.hid hmB
  have HPA := Lib.hid (parse_append a.length a (42 :: b) (Nat.le_refl _) h3)
  have HS := Lib.hid (hs.pre 60)
  have HM := Lib.hid (show (s.take 60).length = min m 60 by rw [List.length_take, hm]; omega)
  have hk : min m 60 ≤ 60 := by omega
  have hk2 : min m 60 ≤ capS := by omega
  have hla : (parseS a).length ≤ 120 := by have := parse_len _ a (Nat.le_refl _); omega
  have hlb : (parseS b).length ≤ 120 := by have := parse_len _ b (Nat.le_refl _); omega
  have hI : ¬ (120 : Int) < (mA : Int) := by omega
  have hI2 : ¬ (120 : Int) < (mB : Int) := by omega
  clear hg ha hmA hb hmB hs hm h3
  generalize min m 60 = k at *
  generalize s.take 60 = S at *
  have HMC := Lib.hid (show mat (parseS (a ++ [42] ++ b)) S = ((prefS (parseS a) S false).2 && (suffS (parseS b) S false).2 && decide ((prefS (parseS a) S false).1 ≤ (suffS (parseS b) S false).1)) by
    have e : a ++ [42] ++ b = a ++ 42 :: b := by simp
    rw [e, HPA.out, parse_star, mat_cuts])
  have HLR := Lib.hid (show (parseS (a ++ [42] ++ b)).length ≤ 241 by have := parse_len _ (a ++ [42] ++ b) (Nat.le_refl _); simp [HMA.out, HMB.out] at this; simp; omega)
  clear HPA
  obtain ⟨M, hM⟩ : ∃ M, mat (parseS (a ++ [42] ++ b)) S = M := ⟨_, rfl⟩
  obtain ⟨X, hX⟩ : ∃ X, prefS (parseS a) S false = X := ⟨_, rfl⟩
  obtain ⟨V, hV⟩ : ∃ V, suffS (parseS b) S false = V := ⟨_, rfl⟩
  rw [hM, hX, hV] at HMC
  have HMX := Lib.hid hM
  have HX := Lib.hid hX
  have HV := Lib.hid hV
  clear hM hX hV
  obtain ⟨x, ok⟩ := X
  obtain ⟨v, on⟩ := V
  go_enter Tryd.func8, Tryd.ntmps8
  go_wp2_with fail
  refine HF.out.mono ?_; rintro e w' ⟨rfl, rfl⟩
  go_wp2_with fail
  refine HO.out.mono ?_; rintro e w' ⟨rfl, rfl⟩
  go_wp2_with fail
  refine HC.out.mono ?_; rintro e w1 ⟨rfl, v1, hp1⟩
  have HP1 := Lib.hid hp1
  have HB1 := Lib.hid hp1.b
  clear hp1 HC HF HO
  have HC2 := Lib.hid (pread_any w1 aB mB capB b (HBB.out.below HB1.out) (HG.out.below' HB1.out) HMB.out hcB (by omega) (by omega))
  go_wp2_with fail
  refine HC2.out.mono ?_; rintro e w2 ⟨rfl, v2, hp2⟩
  have HP2 := Lib.hid hp2
  have HB12 := Lib.hid hp2.b
  have HB2 := Lib.hid (HB1.out.trans (hp2.b.mono HB1.out.size))
  clear hp2 HC2
  obtain ⟨v3, w3, h31, h32, h33⟩ := app_more (w2.alloc (.cells #[] 5)) w2.heap.size (.slice (some ⟨w2.heap.size, 0, none⟩) 0 0) 0 [] (.inl ⟨_, rfl, .inl rfl⟩) rfl aA mA capA a ((HAA.out.below HB2.out).below ((Below.refl _ _).alloc (Nat.le_refl _) _)) HMA.out (by omega) (by simp)
  have hs3 : w2.heap.size ≤ w3.heap.size := by have := h33.size; simp at this; omega
  have b3 : Below w2.heap.size w2 w3 := ((Below.refl _ w2).alloc (Nat.le_refl _) (.cells #[] 5)).trans h33
  obtain ⟨v4, w4, h41, h42, h43⟩ := app_more (w3.alloc (.cells #[.int .u8 42] 5)) w2.heap.size v3 (0 + mA) ([] ++ a) (h32.below ((Below.refl _ _).alloc (Nat.le_refl _) _)) (by simp [HMA.out]) (some ⟨w3.heap.size, 0, none⟩) 1 1 [42] (hasB_new w3 [42] _ _ rfl) rfl (by omega) (by simp; omega)
  have b4 : Below w2.heap.size w2 w4 := (b3.alloc hs3 (.cells #[.int .u8 42] 5)).trans h43
  obtain ⟨v5, w5, h51, h52, h53⟩ := app_more w4 w2.heap.size v4 (0 + mA + 1) ([] ++ a ++ [42]) h42 (by simp [HMA.out]) aB mB capB b ((HBB.out.below HB2.out).below b4) HMB.out (by omega) b4.size
  have b5 : Below w2.heap.size w2 w5 := b4.trans h53
  obtain ⟨N, hN⟩ : ∃ N, 0 + mA + 1 + mB = N := ⟨_, rfl⟩
  rw [hN, List.nil_append] at h52
  have hNl : (a ++ [42] ++ b).length = N := by simp [HMA.out, HMB.out]; omega
  obtain ⟨a5, cap5, rfl, h54, h55, h56⟩ := h52.out hNl (by simp [maxLen]; omega)
  have HA1 := Lib.hid h31
  have HA2 := Lib.hid h41
  have HA3 := Lib.hid h51
  have HB5 := Lib.hid (HB2.out.trans (b5.mono HB2.out.size))
  have HB15 := Lib.hid ((HB12.out.trans (b5.mono HB12.out.size)))
  have HB25 := Lib.hid b5
  have HG5 := Lib.hid (HG.out.below' HB5.out)
  have HC5 := Lib.hid (pread_any w5 a5 N cap5 (a ++ [42] ++ b) h54 HG5.out hNl h55 (by simp [maxLen] at h56; omega) (by omega))
  clear h31 h32 h33 h41 h42 h43 h51 h52 h53 h54 h55 h56 b3 b4 b5 hs3 hN hNl
  go_wp2_with (first | (at_builtin; refine wpList_append_run rfl (.tmp 33) (.tmp 34) _ rfl _ _ _ rfl rfl HA1.out ?_) | (at_builtin; refine wpList_append_run rfl (.tmp 35) (.tmp 36) _ rfl _ _ _ rfl rfl HA2.out ?_) | (at_builtin; refine wpList_append_run rfl (.tmp 37) (.tmp 38) _ rfl _ _ _ rfl rfl HA3.out ?_))
  refine HC5.out.mono ?_; rintro e w6 ⟨rfl, v6, hp6⟩
  have HP6 := Lib.hid (show PtW w5 w6 v6 (parseS (a ++ [42] ++ b)) from hp6)
  have HB56 := Lib.hid hp6.b
  have HB6 := Lib.hid (HB5.out.trans (hp6.b.mono HB5.out.size))
  have HB16 := Lib.hid (HB15.out.trans (hp6.b.mono HB15.out.size))
  have HB26 := Lib.hid (HB25.out.trans (hp6.b.mono HB25.out.size))
  clear hp6 HC5 HA1 HA2 HA3
  go_wp2_with fail
  refine (prefix_read HP1.out (by omega) w6 HB16.out aS k capS S false (HS.out.below HB6.out) HM.out hk2 hr).mono ?_; rintro e w7 ⟨rfl, hb7⟩
  have HB7 := Lib.hid (HB6.out.trans (hb7.mono HB6.out.size))
  have HB27 := Lib.hid (HB26.out.trans (hb7.mono HB26.out.size))
  have HB67 := Lib.hid hb7
  rw [HX.out]
  clear hb7
  go_wp2_with fail
  refine (suffix_read HP2.out (by omega) w7 HB27.out aS k capS S false (HS.out.below HB7.out) HM.out hk2 hr).mono ?_; rintro e w8 ⟨rfl, hb8⟩
  have HB8 := Lib.hid (HB7.out.trans (hb8.mono HB7.out.size))
  have HB68 := Lib.hid (HB67.out.trans (hb8.mono HB67.out.size))
  rw [HV.out]
  clear hb8
  have CM := Lib.hid (match_read HP6.out (by have := HLR.out; omega) w8 HB68.out aS k capS S (HS.out.below HB8.out) HM.out (by omega) hk2 (by omega))
  rw [HMX.out] at CM
  have HXV := Lib.hid (show M = (ok && on && decide ((x : Int) ≤ (v : Int))) by rw [HMC.out]; simp)
  cases ok
  · obtain rfl : M = false := by rw [HXV.out]; rfl
    clear HXV
    go_wp2_with fail
    refine CM.out.mono ?_; rintro e w9 ⟨rfl, hb9⟩
    have HB9 := Lib.hid (HB8.out.trans (hb9.mono HB8.out.size))
    have HA := Lib.hid (awake_any w9 (HG.out.below' HB9.out))
    clear hb9
    go_wp2_with fail
    refine HA.out.mono ?_; rintro e wz ⟨rfl, hbz⟩
    have HBZ := Lib.hid (HB9.out.trans (hbz.mono HB9.out.size))
    clear hbz
    go_wp2_with fail
    go_ret
    exact ⟨rfl, HBZ.out⟩
  cases on
  · obtain rfl : M = false := by rw [HXV.out]; rfl
    clear HXV
    go_wp2_with fail
    refine CM.out.mono ?_; rintro e w9 ⟨rfl, hb9⟩
    have HB9 := Lib.hid (HB8.out.trans (hb9.mono HB8.out.size))
    have HA := Lib.hid (awake_any w9 (HG.out.below' HB9.out))
    clear hb9
    go_wp2_with fail
    refine HA.out.mono ?_; rintro e wz ⟨rfl, hbz⟩
    have HBZ := Lib.hid (HB9.out.trans (hbz.mono HB9.out.size))
    clear hbz
    go_wp2_with fail
    go_ret
    exact ⟨rfl, HBZ.out⟩
  by_cases hxv : (x : Int) ≤ (v : Int)
  · obtain rfl : M = true := by rw [HXV.out]; simp [hxv]
    clear HXV
    go_wp2_with fail
    refine CM.out.mono ?_; rintro e w9 ⟨rfl, hb9⟩
    have HB9 := Lib.hid (HB8.out.trans (hb9.mono HB8.out.size))
    have HA := Lib.hid (awake_any w9 (HG.out.below' HB9.out))
    clear hb9
    go_wp2_with fail
    refine HA.out.mono ?_; rintro e wz ⟨rfl, hbz⟩
    have HBZ := Lib.hid (HB9.out.trans (hbz.mono HB9.out.size))
    clear hbz
    go_wp2_with fail
    go_ret
    exact ⟨rfl, HBZ.out⟩
  · obtain rfl : M = false := by rw [HXV.out]; simp [hxv]
    clear HXV
    go_wp2_with fail
    refine CM.out.mono ?_; rintro e w9 ⟨rfl, hb9⟩
    have HB9 := Lib.hid (HB8.out.trans (hb9.mono HB8.out.size))
    have HA := Lib.hid (awake_any w9 (HG.out.below' HB9.out))
    clear hb9
    go_wp2_with fail
    refine HA.out.mono ?_; rintro e wz ⟨rfl, hbz⟩
    have HBZ := Lib.hid (HB9.out.trans (hbz.mono HB9.out.size))
    clear hbz
    go_wp2_with fail
    go_ret
    exact ⟨ret_bool (show (!decide (x ≤ v)) = true by simp; omega), HBZ.out⟩
theorem GmatchCuts_walk (w : World) (aA : Option Addr) (mA capA : Nat) (a : List UInt8) (aB : Option Addr) (mB capB : Nat) (b : List UInt8) (aS : Option Addr) (m capS : Nat) (s : List UInt8) (hg : Glob w) (ha : HasB w aA a) (hmA : a.length = mA) (hcA : mA ≤ capA) (hrA : capA ≤ 140737488351232)
    (hb : HasB w aB b) (hmB : b.length = mB) (hcB : mB ≤ capB) (hrB : capB ≤ 140737488351232)
    (hs : HasB w aS s) (hm : s.length = m) (hc : m ≤ capS) (hr : capS ≤ 140737488351232) :
    Calls Tryd.prog 8 #[.slice aA mA capA, .slice aB mB capB, .slice aS m capS] w fun e w' => e = .returned (.bool true) ∧ Below w.heap.size w w' := by
  rcases Nat.lt_or_ge 120 mA with h1 | h1
  · exact cuts_off1 w aA mA capA a aB mB capB b aS m capS s hg ha hmA hcA hrA hb hmB hcB hrB hs hm hc hr h1
  rcases Nat.lt_or_ge 120 mB with h2 | h2
  · exact cuts_off2 w aA mA capA a aB mB capB b aS m capS s hg ha hmA hcA hrA hb hmB hcB hrB hs hm hc hr h1 h2
  cases h3 : openS a with
  | true => exact cuts_off3 w aA mA capA a aB mB capB b aS m capS s hg ha hmA hcA hrA hb hmB hcB hrB hs hm hc hr h1 h2 h3
  | false => exact cuts_on w aA mA capA a aB mB capB b aS m capS s hg ha hmA hcA hrA hb hmB hcB hrB hs hm hc hr h1 h2 h3
end Go.Proofs.YtafmhhhboihdfaaDoor
