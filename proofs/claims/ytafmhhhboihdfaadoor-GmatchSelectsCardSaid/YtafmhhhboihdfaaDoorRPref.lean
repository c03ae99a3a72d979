/-
  The document's answer: Match, Prefix, Suffix. Conditions: those that each theorem names.
-/
import Derived.Test.YtafmhhhboihdfaaDoorREnds
namespace Go.Proofs.YtafmhhhboihdfaaDoor
open Go.RowKit
set_option linter.unusedVariables false
theorem HasP.top {w : World} {B : Nat} {a : Option Addr} {l : List Pc} (h : HasP w B a l) : HasP w w.heap.size a l := by
  rcases h with h | ⟨b, off, h1, h2, h3, h4⟩
  · exact .inl h
  · exact .inr ⟨b, off, h1, Nat.lt_of_lt_of_le h2 h3, Nat.le_refl _, h4⟩
set_option maxRecDepth 100000 in
set_option maxHeartbeats 1600000 in
theorem rmatch_any (w : World) (aL : Option Addr) (capL n : Nat) (l : List Pc) (aS : Option Addr) (m capS : Nat) (s : List UInt8) (hn : l.length = n) (hp : HasP w w.heap.size aL l) (hlc : n ≤ capL) (hc : capL ≤ 9223372036854775807)
    (hs : HasB w aS s) (hm : s.length = m) (hms : m ≤ capS) (mb : m ≤ 1099511627776) (hcs : capS ≤ 9223372036854775807) :
    Calls Tryd.prog 24 #[.slice aL n capL, .slice aS m capS] w fun e w' => e = .returned (.bool (mat l s)) ∧ Below w.heap.size w w' := by
  have HC := Lib.hid (rends_any w aL capL n l aS m capS 0 s hn hp hlc hc hs hm hms mb hcs (by omega))
  have HE := Lib.hid (ends_all l s)
  rw [hm] at HE
  have hm0 : (0 : Int) ≤ (m : Int) := by omega
  have hm1 : (m : Int) < (m : Int) + 1 := by omega
  clear hp hs hm
  go_enter Tryd.func24, Tryd.ntmps24
  go_wp2_with fail
  refine HC.out.mono ?_; rintro e w1 ⟨N, rfl, hN, hnow, hb⟩
  obtain ⟨c0, -⟩ := hnow.cell (j := m) (by omega)
  rw [HE.out] at c0
  have HB := Lib.hid hb
  clear hnow hb HC
  go_wp2_with fail
  go_ret
  exact ⟨rfl, HB.out⟩
set_option maxRecDepth 100000 in
set_option maxHeartbeats 1600000 in
theorem rprefix_any (w : World) (aL : Option Addr) (capL n : Nat) (l : List Pc) (aS : Option Addr) (m capS : Nat) (s : List UInt8) (longest : Bool) (hn : l.length = n) (hp : HasP w w.heap.size aL l) (hlc : n ≤ capL) (hc : capL ≤ 9223372036854775807)
    (hs : HasB w aS s) (hm : s.length = m) (hms : m ≤ capS) (mb : m ≤ 1099511627776) (hcs : capS ≤ 9223372036854775807) :
    Calls Tryd.prog 21 #[.slice aL n capL, .slice aS m capS, .bool longest] w fun e w' => e = .returned (.tuple #[.int .i64 (prefS l s longest).1, .bool (prefS l s longest).2]) ∧ Below w.heap.size w w' := by
  have HC := Lib.hid (rends_any w aL capL n l aS m capS 0 s hn hp hlc hc hs hm hms mb hcs (by omega))
  have HE := Lib.hid (show prefS l s longest = bestTo (endsF l s 0) longest (m + 1) by
    unfold prefS; rw [hm]; exact (best_ends l s longest (m + 1) (by omega)).symm)
  clear hp hs hm
  go_enter Tryd.func21, Tryd.ntmps21
  go_wp2_with fail
  refine HC.out.mono ?_; rintro e w1 ⟨N, rfl, hN, hnow, hb⟩
  have HN := Lib.hid hnow
  have HB := Lib.hid hb
  clear hnow hb HC
  generalize endsF l s 0 = f at *
  go_wp2_with fail
  have hsz : bestTo f longest 0 = (0, false) := rfl
  go_loopw [8, 9, 16] (fun bv ov jv wr => ∃ j : Nat, bv = .int .i64 (bestTo f longest j).1 ∧ ov = .bool (bestTo f longest j).2 ∧ jv = .int .i64 j ∧ j ≤ m + 1 ∧ NowAt wr N (m + 1) f ∧ Below w.heap.size w wr) (fun _ _ jv _ => m + 1 - (intOf jv).toNat)
  case atStart => exact ⟨0, rfl, rfl, rfl, by omega, HN.out, HB.out⟩
  case round =>
    obtain ⟨j, rfl, rfl, rfl, hj, h1, h2⟩ := hrel
    have HN1 := Lib.hid h1
    have HB1 := Lib.hid h2
    clear h1 h2 HN HB hsz
    by_cases hlt : j < m + 1
    · have hjI : (j : Int) < (m : Int) + 1 := by omega
      have hj0 : (0 : Int) ≤ (j : Int) := by omega
      obtain ⟨nj, -⟩ := HN1.out.cell (j := j) hlt
      have HS := Lib.hid (show bestTo f longest (j + 1) = if f j && (longest || !(bestTo f longest j).2) then (j, true) else bestTo f longest j from rfl)
      generalize bestTo f longest j = bo at *
      obtain ⟨bt, ok⟩ := bo
      generalize f j = fj at *
      simp only at HS
      cases fj <;> cases longest <;> cases ok
      all_goals
        go_wp2_with fail
        go_roundw
        case rel =>
          refine ⟨j + 1, ?_, ?_, rfl, by omega, HN1.out, HB1.out⟩ <;> rw [HS.out] <;> rfl
        case measure => simp [intOf]; omega
    · have hjI : ¬ (j : Int) < (m : Int) + 1 := by omega
      obtain rfl : j = m + 1 := by omega
      generalize bestTo f longest (m + 1) = bo at *
      obtain ⟨bt, ok⟩ := bo
      go_wp2_with fail
      go_ret2
      rw [HE.out]
      exact ⟨rfl, HB1.out⟩
set_option maxRecDepth 100000 in
set_option maxHeartbeats 3200000 in
theorem rsuffix_any (w : World) (aL : Option Addr) (capL n : Nat) (l : List Pc) (aS : Option Addr) (m capS : Nat) (s : List UInt8) (longest : Bool) (hn : l.length = n) (hp : HasP w w.heap.size aL l) (hlc : n ≤ capL) (hc : capL ≤ 9223372036854775807)
    (hs : HasB w aS s) (hm : s.length = m) (hms : m ≤ capS) (mb : m ≤ 1099511627776) (hcs : capS ≤ 9223372036854775807) :
    Calls Tryd.prog 23 #[.slice aL n capL, .slice aS m capS, .bool longest] w fun e w' => e = .returned (.tuple #[.int .i64 (suffS l s longest).1, .bool (suffS l s longest).2]) ∧ Below w.heap.size w w' := by
  have HC := Lib.hid (fun (W : World) (t : Nat) (ht : t ≤ m) (hW : Below w.heap.size w W) => rends_any W aL capL n l aS m capS (m - t) s hn (hp.below hW).top hlc hc (hs.below hW) hm hms mb hcs (by omega))
  have HE := Lib.hid (fun t (ht : t ≤ m) => ends_suff l s t (by omega))
  have HF := Lib.hid (show suffS l s longest = if (bestTo (suffG l s) longest (m + 1)).2 then (m - (bestTo (suffG l s) longest (m + 1)).1, true) else (0, false) by
    unfold suffS; rw [hm])
  rw [hm] at HE
  have hm0 : (0 : Int) ≤ (m : Int) := by omega
  have hm1 : (m : Int) < (m : Int) + 1 := by omega
  clear hp hs hm
  generalize suffG l s = g at *
  go_enter Tryd.func23, Tryd.ntmps23
  go_wp2_with fail
  have hsz : bestTo g longest 0 = (0, false) := rfl
  go_loopw [8, 9, 10] (fun bv ov jv wr => ∃ (t : Nat) (z y : Int), bv = .int .i64 y ∧ y = (if (bestTo g longest t).2 then ((m - (bestTo g longest t).1 : Nat) : Int) else 0) ∧ ov = .bool (bestTo g longest t).2 ∧ jv = .int .i64 z ∧ z = (m : Int) - t ∧ t ≤ m + 1 ∧ Below w.heap.size w wr) (fun _ _ jv _ => (intOf jv + 1).toNat)
  case atStart => exact ⟨0, m, 0, rfl, by rw [hsz]; rfl, rfl, rfl, by omega, by omega, Below.refl _ _⟩
  case round =>
    obtain ⟨t, z, y, rfl, hy, rfl, rfl, hz, htm, h1⟩ := hrel
    have HB1 := Lib.hid h1
    have HY := Lib.hid hy
    clear h1 hsz hy
    by_cases hlt : t ≤ m
    · obtain ⟨k, hk⟩ : ∃ k : Nat, k = m - t := ⟨_, rfl⟩
      obtain rfl : z = (k : Int) := by omega
      have hk0 : (0 : Int) ≤ (k : Int) := by omega
      have HZ := Lib.hid hz
      have hkw : wrap64 ((k : Int) - 1) = k - 1 := by unfold wrap64; omega
      clear hz
      have HG := Lib.hid (HE.out t hlt)
      have HCC := Lib.hid (HC.out wr t hlt HB1.out)
      rw [← hk] at HG HCC
      have HK := Lib.hid hk
      have HS := Lib.hid (show bestTo g longest (t + 1) = if g t && (longest || !(bestTo g longest t).2) then (t, true) else bestTo g longest t from rfl)
      clear hk
      generalize bestTo g longest t = bo at *
      obtain ⟨bt, ok⟩ := bo
      generalize g t = gt at *
      simp only at HS HY
      go_wp2_with fail
      refine HCC.out.mono ?_; rintro e w1 ⟨N, rfl, hN, hnow, hb⟩
      obtain ⟨c0, -⟩ := hnow.cell (j := m) (by omega)
      rw [HG.out] at c0
      have HB2 := Lib.hid (HB1.out.trans (hb.mono HB1.out.size))
      clear hnow hb HCC
      cases gt <;> cases longest <;> cases ok
      all_goals
        go_wp2_with fail
        go_roundw
        case rel =>
          have hS := HS.out
          simp only [Bool.false_and, Bool.true_and, Bool.false_or, Bool.true_or, Bool.not_false, Bool.not_true, if_true, if_false, Bool.false_eq_true] at hS
          have hz := HZ.out
          refine ⟨t + 1, (k : Int) - 1, _, rfl, ?_, ?_, congrArg (Value.int .i64) hkw, by omega, by omega, HB2.out⟩
          · rw [hS]; first | exact HY.out | (rw [if_pos rfl, HK.out])
          · rw [hS]
        case measure => simp [intOf]; omega
    · obtain rfl : t = m + 1 := by omega
      have hk0 : ¬ (0 : Int) ≤ z := by omega
      generalize bestTo g longest (m + 1) = bo at *
      obtain ⟨bt, ok⟩ := bo
      go_wp2_with fail
      go_ret2
      rw [HF.out]
      cases ok <;> rw [HY.out] <;> exact ⟨rfl, HB1.out⟩
end Go.Proofs.YtafmhhhboihdfaaDoor
