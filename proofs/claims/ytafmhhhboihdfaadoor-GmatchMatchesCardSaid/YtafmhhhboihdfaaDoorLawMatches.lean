/-
  The law GmatchMatches: its walk. Conditions: those that each theorem names.
-/
import Derived.Test.YtafmhhhboihdfaaDoorRPat
import Derived.Test.YtafmhhhboihdfaaDoorRPref
import Derived.Test.YtafmhhhboihdfaaDoorLawWhole
import Derived.Deep.CutBlock
import Derived.Deep.DeepCutAuto
import Derived.Outline
namespace Go.Proofs.YtafmhhhboihdfaaDoor
open Go.RowKit
set_option linter.unusedVariables false
set_option maxRecDepth 100000 in
set_option maxHeartbeats 1600000 in
theorem matches_nil (w : World) (aB : Option Addr) (mB capB : Nat) (aS : Option Addr) (m capS : Nat) (longest : Bool) (hg : Glob w) (hcB : mB ≤ capB) (hrB : capB ≤ 140737488351232)
    (hc : m ≤ capS) (hr : capS ≤ 140737488351232) (h256 : 256 < mB) :
    Calls Tryd.prog 6 #[.slice aB mB capB, .slice aS m capS, .bool longest] w fun e w' => e = .returned (.bool true) ∧ Below w.heap.size w w' := by
  have HF := Lib.hid (few_any w aS m capS hc hr)
  have HC := Lib.hid (pread_long w aB mB capB hg h256 hcB (by omega))
  have HR := Lib.hid (fun W => rpat_long W aB mB capB h256 hcB (by omega))
  have HG := Lib.hid hg
  clear hg
  generalize min m 60 = k at *
  go_enter Tryd.func6, Tryd.ntmps6
  go_wp2_with fail
  refine HF.out.mono ?_; rintro e w' ⟨rfl, rfl⟩
  go_wp2_with fail
  refine HC.out.mono ?_; rintro e w1 ⟨rfl, hb1⟩
  have HB1 := Lib.hid hb1
  clear hb1
  go_wp2_with fail
  refine (HR.out w1).mono ?_; rintro e w2 ⟨rfl, hb2⟩
  have HB2 := Lib.hid (HB1.out.trans (hb2.mono HB1.out.size))
  clear hb2
  have HB3 := Lib.hid (HB2.out.alloc HB2.out.size (.cells #[.int .i64 2, .int .i64 0, .int .i64 2] 38))
  go_wp2_with fail
  generalize w2.alloc (.cells #[.int .i64 2, .int .i64 0, .int .i64 2] 38) = W3 at *
  refine (match_nil W3 aS k capS).mono ?_; rintro e w' ⟨rfl, rfl⟩
  have HA := Lib.hid (awake_any W3 (HG.out.below' HB3.out))
  go_wp2_with fail
  refine HA.out.mono ?_; rintro e w4 ⟨rfl, hb4⟩
  have HB4 := Lib.hid (HB3.out.trans (hb4.mono HB3.out.size))
  clear hb4
  go_wp2_with fail
  go_ret
  exact ⟨rfl, HB4.out⟩
set_option maxRecDepth 100000 in
set_option maxHeartbeats 3200000 in
theorem matches_on (w : World) (aB : Option Addr) (mB capB : Nat) (b : List UInt8) (aS : Option Addr) (m capS : Nat) (s : List UInt8) (longest : Bool) (hg : Glob w) (hb : HasB w aB b) (hmB : b.length = mB) (hcB : mB ≤ capB) (hrB : capB ≤ 140737488351232)
    (hs : HasB w aS s) (hm : s.length = m) (hc : m ≤ capS) (hr : capS ≤ 140737488351232) (h256 : mB ≤ 256) :
    Calls Tryd.prog 6 #[.slice aB mB capB, .slice aS m capS, .bool longest] w fun e w' => e = .returned (.bool true) ∧ Below w.heap.size w w' := by
  have HF := Lib.hid (few_any w aS m capS hc hr)
  have HC := Lib.hid (pread_any w aB mB capB b hb hg hmB hcB (by omega) h256)
  have HR := Lib.hid (fun W (hW : Below w.heap.size w W) => rpat_any W aB mB capB b (hb.below hW) hmB hcB (by omega) h256)
  have HG := Lib.hid hg
  have HS := Lib.hid (hs.pre 60)
  have HM := Lib.hid (show (s.take 60).length = min m 60 by rw [List.length_take, hm]; omega)
  have hk : min m 60 ≤ 60 := by omega
  have hk2 : min m 60 ≤ capS := by omega
  have hln : (parseS b).length ≤ 256 := by have := parse_len _ b (Nat.le_refl _); omega
  clear hg hb hmB hs hm
  generalize min m 60 = k at *
  generalize s.take 60 = S at *
  generalize parseS b = l at *
  have CM := Lib.hid (fun (w1 : World) (v : Value) (hp : PtW w w1 v l) (W : World) (hb : Below w1.heap.size w1 W) (hb0 : Below w.heap.size w W) => match_read hp (by omega) W hb aS k capS S (HS.out.below hb0) HM.out (by omega) hk2 (by omega))
  have CP := Lib.hid (fun (w1 : World) (v : Value) (hp : PtW w w1 v l) (W : World) (hb : Below w1.heap.size w1 W) (hb0 : Below w.heap.size w W) => prefix_read hp (by omega) W hb aS k capS S longest (HS.out.below hb0) HM.out hk2 hr)
  have CS := Lib.hid (fun (w1 : World) (v : Value) (hp : PtW w w1 v l) (W : World) (hb : Below w1.heap.size w1 W) (hb0 : Below w.heap.size w W) => suffix_read hp (by omega) W hb aS k capS S longest (HS.out.below hb0) HM.out hk2 hr)
  have RM := Lib.hid (fun (W : World) (A : Option Addr) (C : Nat) (hp : HasP W W.heap.size A l) (h1 : l.length ≤ C) (h2 : C ≤ maxLen) (hb0 : Below w.heap.size w W) => rmatch_any W A C l.length l aS k capS S rfl hp h1 (by unfold maxLen at h2; omega) (HS.out.below hb0) HM.out hk2 (by omega) (by omega))
  have RP := Lib.hid (fun (W : World) (A : Option Addr) (C : Nat) (hp : HasP W W.heap.size A l) (h1 : l.length ≤ C) (h2 : C ≤ maxLen) (hb0 : Below w.heap.size w W) => rprefix_any W A C l.length l aS k capS S longest rfl hp h1 (by unfold maxLen at h2; omega) (HS.out.below hb0) HM.out hk2 (by omega) (by omega))
  have RS := Lib.hid (fun (W : World) (A : Option Addr) (C : Nat) (hp : HasP W W.heap.size A l) (h1 : l.length ≤ C) (h2 : C ≤ maxLen) (hb0 : Below w.heap.size w W) => rsuffix_any W A C l.length l aS k capS S longest rfl hp h1 (by unfold maxLen at h2; omega) (HS.out.below hb0) HM.out hk2 (by omega) (by omega))
  generalize mat l S = M at *
  generalize prefS l S longest = X at *
  generalize suffS l S longest = U at *
  obtain ⟨x, ok⟩ := X
  obtain ⟨u, on⟩ := U
  go_enter Tryd.func6, Tryd.ntmps6
  go_wp2_with fail
  refine HF.out.mono ?_; rintro e w' ⟨rfl, rfl⟩
  go_wp2_with fail
  refine HC.out.mono ?_; rintro e w1 ⟨rfl, vv, hp⟩
  have HP := Lib.hid hp
  have HB1 := Lib.hid hp.b
  have HQ1 := Lib.hid (Below.refl w1.heap.size w1)
  clear hp HC HF
  go_wp2_with fail
  refine (HR.out w1 HB1.out).mono ?_; rintro e w2 ⟨A, C, rfl, hpA, hC1, hC2, hb2⟩
  have HQ2 := Lib.hid ((HQ1.out.trans (hb2.mono HQ1.out.size)).alloc (HQ1.out.trans (hb2.mono HQ1.out.size)).size (.cells #[.int .i64 0, .int .i64 0, .int .i64 0] 38))
  have HB2 := Lib.hid ((HB1.out.trans (hb2.mono HB1.out.size)).alloc (HB1.out.trans (hb2.mono HB1.out.size)).size (.cells #[.int .i64 0, .int .i64 0, .int .i64 0] 38))
  have HA := Lib.hid ((hpA.below ((Below.refl _ _).alloc (Nat.le_refl _) (.cells #[.int .i64 0, .int .i64 0, .int .i64 0] 38))).top)
  have HF := Lib.hid (show FAt (w2.alloc (.cells #[.int .i64 0, .int .i64 0, .int .i64 0] 38)) w2.heap.size 0 0 0 from heap_alloc_new _ _)
  have HC1 := Lib.hid hC1
  have HC2 := Lib.hid hC2
  clear hb2 hpA hC1 hC2 HR
  go_upto_region 6 with fail
  generalize w2.alloc (.cells #[.int .i64 0, .int .i64 0, .int .i64 0] 38) = W2 at *
  generalize w2.heap.size = Y at *
  obtain ⟨f0, f1, f2, -⟩ := HF.out.cells
  go_wp2_with fail
  clear f0 f1 f2
  refine (CP.out _ _ HP.out W2 HQ2.out HB2.out).mono ?_; rintro e w3 ⟨rfl, hb3⟩
  have HQ3 := Lib.hid (HQ2.out.trans (hb3.mono HQ2.out.size))
  have HB3 := Lib.hid (HB2.out.trans (hb3.mono HB2.out.size))
  have HA3 := Lib.hid (HA.out.below hb3).top
  clear hb3
  go_wp2_with fail
  refine (RP.out w3 A C HA3.out HC1.out HC2.out HB3.out).mono ?_; rintro e w4 ⟨rfl, hb4⟩
  have HQ4 := Lib.hid (HQ3.out.trans (hb4.mono HQ3.out.size))
  have HB4 := Lib.hid (HB3.out.trans (hb4.mono HB3.out.size))
  have HA4 := Lib.hid (HA3.out.below hb4).top
  clear hb4
  go_wp2_with fail
  refine (CS.out _ _ HP.out w4 HQ4.out HB4.out).mono ?_; rintro e w5 ⟨rfl, hb5⟩
  have HQ5 := Lib.hid (HQ4.out.trans (hb5.mono HQ4.out.size))
  have HB5 := Lib.hid (HB4.out.trans (hb5.mono HB4.out.size))
  have HA5 := Lib.hid (HA4.out.below hb5).top
  clear hb5
  go_wp2_with fail
  refine (RS.out w5 A C HA5.out HC1.out HC2.out HB5.out).mono ?_; rintro e w6 ⟨rfl, hb6⟩
  have HQ6 := Lib.hid (HQ5.out.trans (hb6.mono HQ5.out.size))
  have HB6 := Lib.hid (HB5.out.trans (hb6.mono HB5.out.size))
  have HA6 := Lib.hid (HA5.out.below hb6).top
  clear hb6
  go_wp2_with fail
  refine (CM.out _ _ HP.out w6 HQ6.out HB6.out).mono ?_; rintro e w7 ⟨rfl, hb7⟩
  have HB7 := Lib.hid (HB6.out.trans (hb7.mono HB6.out.size))
  have HA7 := Lib.hid (HA6.out.below hb7).top
  clear hb7
  go_wp2_with fail
  refine (RM.out w7 A C HA7.out HC1.out HC2.out HB7.out).mono ?_; rintro e w8 ⟨rfl, hb8⟩
  have HB8 := Lib.hid (HB7.out.trans (hb8.mono HB7.out.size))
  clear hb8
  have h1 : ((x : Int) == (x : Int)) = true := by simp
  have h2 : ((u : Int) == (u : Int)) = true := by simp
  cases M <;> cases ok <;> cases on
  all_goals
    go_wp2_with fail
    refine (awake_any w8 (HG.out.below' HB8.out)).mono ?_; rintro e wz ⟨rfl, hbz⟩
    have HBZ := Lib.hid (HB8.out.trans (hbz.mono HB8.out.size))
    clear hbz
    go_wp2_with fail
    go_ret
    exact ⟨rfl, HBZ.out⟩
theorem GmatchMatches_walk (w : World) (aB : Option Addr) (mB capB : Nat) (b : List UInt8) (aS : Option Addr) (m capS : Nat) (s : List UInt8) (longest : Bool) (hg : Glob w) (hb : HasB w aB b) (hmB : b.length = mB) (hcB : mB ≤ capB) (hrB : capB ≤ 140737488351232)
    (hs : HasB w aS s) (hm : s.length = m) (hc : m ≤ capS) (hr : capS ≤ 140737488351232) :
    Calls Tryd.prog 6 #[.slice aB mB capB, .slice aS m capS, .bool longest] w fun e w' => e = .returned (.bool true) ∧ Below w.heap.size w w' := by
  rcases Nat.lt_or_ge 256 mB with h1 | h1
  · exact matches_nil w aB mB capB aS m capS longest hg hcB hrB hc hr h1
  · exact matches_on w aB mB capB b aS m capS s longest hg hb hmB hcB hrB hs hm hc hr h1
end Go.Proofs.YtafmhhhboihdfaaDoor
