/-
  What upto answers: how far the pieces match. Conditions: those that each theorem names. Printed by gen_upto.py.
-/
import Derived.Test.YtafmhhhboihdfaaDoorAwake
namespace Go.Proofs.YtafmhhhboihdfaaDoor
open Go.RowKit
set_option linter.unusedVariables false
set_option maxRecDepth 100000 in
theorem pfx_any (w : World) (c : Nat) (b off m cap : Nat) (l : List UInt8) (i : Nat) (hi : i < l.length) (hm : l.length = m) (hc : w.cell? ⟨c, 0, none⟩ = some (.slice (some ⟨b, off, none⟩) m cap)) (hx : w.cell? ⟨b, off + i, none⟩ = some (.int .u8 (iv l[i]))) (hcs : m ≤ 140737488351232) :
    Calls Tryd.prog 33 #[.int .i64 i, .pointer (some ⟨c, 0, none⟩)] w fun e w' => e = .returned (.int .u8 (iv l[i])) ∧ w = w' := by
  have h1 : (0 : Int) ≤ (i : Int) := by omega
  have h2 : (i : Int) < (m : Int) := by omega
  have h3 : i < m := by omega
  generalize iv l[i] = x at *
  clear hm hi
  go_enter Tryd.func33, Tryd.ntmps33
  go_wp2_with fail
  go_ret
  exact ⟨rfl, rfl⟩
set_option maxRecDepth 100000 in
theorem sfx_any (w : World) (c : Nat) (b off m cap : Nat) (l : List UInt8) (i k : Nat) (hi : k < l.length) (hm : l.length = m) (hk : m = i + k + 1) (hc : w.cell? ⟨c, 0, none⟩ = some (.slice (some ⟨b, off, none⟩) m cap)) (hx : w.cell? ⟨b, off + k, none⟩ = some (.int .u8 (iv l[k]))) (hcs : m ≤ 140737488351232) :
    Calls Tryd.prog 39 #[.int .i64 i, .pointer (some ⟨c, 0, none⟩)] w fun e w' => e = .returned (.int .u8 (iv l[k])) ∧ w = w' := by
  have h1 : (0 : Int) ≤ (k : Int) := by omega
  have h2 : (k : Int) < (m : Int) := by omega
  have h3 : k < m := by omega
  have h4 : (m : Int) - 1 - (i : Int) = (k : Int) := by omega
  generalize iv l[k] = x at *
  clear hm hi hk
  go_enter Tryd.func39, Tryd.ntmps39
  go_wp2_with fail
  go_ret
  exact ⟨rfl, rfl⟩
set_option maxRecDepth 100000 in
set_option maxHeartbeats 1600000 in
theorem upto_33 (w : World) (aL : Option Addr) (capL n : Nat) (l : List Pc) (c m : Nat) (X : List UInt8) (longest : Bool) (hn : l.length = n) (hp : HasP w w.heap.size aL l) (hlc : n ≤ capL) (hc : capL ≤ 9223372036854775807) (hnb : n ≤ 4096)
    (hX : X.length = m) (hm : m ≤ 140737488351232) (HX : ∀ i (hi : i < X.length) (W : World), Below w.heap.size w W → Calls Tryd.prog 33 #[.int .i64 i, .pointer (some ⟨c, 0, none⟩)] W fun e w' => e = .returned (.int .u8 (iv X[i])) ∧ W = w') :
    Calls Tryd.prog 32 #[.slice aL n capL, .int .i64 m, .func (.func 33) #[] #[.pointer (some ⟨c, 0, none⟩)], .bool longest] w fun e w' =>
      e = .returned (.tuple #[.int .i64 (bestTo (fun j => mat l (X.take j)) longest (m + 1)).1, .bool (bestTo (fun j => mat l (X.take j)) longest (m + 1)).2]) ∧ Below w.heap.size w w' := by
  have HC := Lib.hid (begin_any w aL capL n l hn hp hlc hc (by omega))
  have HN := Lib.hid hn
  have HP := Lib.hid hp
  have HL := Lib.hid hX
  have HXX := Lib.hid HX
  obtain ⟨g, hg⟩ : ∃ g : Nat → Bool, g = fun j => mat l (X.take j) := ⟨_, rfl⟩
  rw [← hg]
  have HG := Lib.hid (show ∀ j, fAt l X j n = g j by intro j; rw [hg, ← hn]; rfl)
  clear hg hn hp hX HX
  obtain ⟨K0, hK0⟩ : ∃ K0, w.heap.size = K0 := ⟨_, rfl⟩
  rw [hK0] at HC HP HXX
  have HK := Lib.hid hK0
  go_enter Tryd.func32, Tryd.ntmps32
  go_wp2_with fail
  refine HC.out.mono ?_; rintro e w1 ⟨rfl, hr, hnw, hb⟩
  have HR := Lib.hid hr
  have HW := Lib.hid hnw
  have HB := Lib.hid hb
  clear hr hnw hb HC
  clear hK0
  go_wp2_with fail
  go_loopw [11, 12, 13] (fun o k x wr => ∃ (i N : Nat), o = .int .i64 (bestTo g longest i).1 ∧ k = .bool (bestTo g longest i).2 ∧ x = .int .i64 i ∧ i ≤ m ∧ (longest = true ∨ (bestTo g longest i).2 = false) ∧ K0 + 1 ≠ N ∧ K0 ≤ N ∧ RunAt wr (K0 + 1) N aL capL n (sAt l X i) ∧ NowAt wr N (n + 1) (fAt l X i) ∧ Below K0 w wr) (fun _ _ x _ => m - (intOf x).toNat)
  case atStart => exact ⟨0, K0, rfl, rfl, rfl, by omega, .inr rfl, by omega, by omega, HR.out, HW.out, HB.out⟩
  case round =>
    obtain ⟨i, N, rfl, rfl, rfl, hi, hlo, hN1, hN2, hr, hnw, hb⟩ := hrel
    have HRW := Lib.hid hr
    have HNW := Lib.hid hnw
    have HBW := Lib.hid hb
    have HD := Lib.hid (done_any wr (K0 + 1) N aL capL n (fAt l X i) (sAt l X i) hr hnw)
    rw [HG.out] at HD
    clear hr hnw hb
    by_cases hgi : g i = true
    · rw [hgi] at HD
      have HGI := Lib.hid hgi
      clear hgi
      cases longest with
      | false =>
        have hst : (bestTo g false i).2 = false := by simpa using hlo
        have HBS := Lib.hid (best_stop g i (m + 1) (by omega) HGI.out hst)
        clear hlo hst
        generalize bestTo g false i = st at *
        go_wp2_with fail
        refine HD.out.mono ?_; rintro e w2 ⟨rfl, q, rfl⟩
        go_wp2_with fail
        go_ret2
        refine ⟨?_, HK.out ▸ HBW.out.trans ⟨rfl, rfl, rfl, Nat.le_refl _, fun _ _ => rfl⟩⟩
        rw [HBS.out]
        rfl
      | true =>
        have HST := Lib.hid (show bestTo g true (i + 1) = (i, true) by rw [bestTo, HGI.out]; rfl)
        clear hlo
        generalize bestTo g true i = st at *
        by_cases him' : i = m
        · have hneq : ((i : Int) == (m : Int)) = true := by simp; omega
          have HII := Lib.hid him'
          clear him'
          go_wp2_with fail
          refine HD.out.mono ?_; rintro e w2 ⟨rfl, q, rfl⟩
          go_wp2_with fail
          go_ret2
          refine ⟨?_, HK.out ▸ HBW.out.trans ⟨rfl, rfl, rfl, Nat.le_refl _, fun _ _ => rfl⟩⟩
          rw [← HII.out, HST.out]
          rfl
        · go_wp2_with fail
          refine HD.out.mono ?_; rintro e w2 ⟨rfl, q, rfl⟩
          have him : i < m := by omega
          have hneq : ((i : Int) == (m : Int)) = false := by simp; omega
          have hjl : i < X.length := by rw [HL.out]; exact him
          have HCL := Lib.hid (HXX.out i hjl)
          have HRD := Lib.hid (show RunAt (wr.drewN q) (K0 + 1) N aL capL n (sAt l X i) from HRW.out)
          have HND := Lib.hid (show NowAt (wr.drewN q) N (n + 1) (fAt l X i) from HNW.out)
          have HBD := Lib.hid (show Below K0 w (wr.drewN q) from HBW.out.trans ⟨rfl, rfl, rfl, Nat.le_refl _, fun _ _ => rfl⟩)
          have hsb := sAt_bd l X i
          have hln := HN.out
          have HC3 := Lib.hid (take_any (wr.drewN q) K0 (K0 + 1) N aL capL n l (fAt l X i) (sAt l X i) X[i].toNat (by have := X[i].toNat_lt; omega) HN.out HRD.out HND.out (HP.out.below HBD.out) hlc hc (by omega) (by omega) hN2 hN1 hsb.1 (by
            have h1 := hsb.2
            have h2 : (i : Int) * (l.length : Int) ≤ 140737488351232 * 4096 := Int.mul_le_mul (by omega) (by omega) (by omega) (by omega)
            omega))
          have HE1 := Lib.hid (fAt_step l X i hjl)
          have HE2 := Lib.hid (sAt_step l X i hjl)
          rw [hln] at HE1 HE2
          rw [← HE1.out, ← HE2.out] at HC3
          clear hsb
          unfold iv at HCL
          generalize X[i].toNat = x at *
          go_wp2_with fail
          refine (HCL.out _ HBD.out).mono ?_; rintro e w' ⟨rfl, rfl⟩
          go_wp2_with fail
          refine HC3.out.mono ?_; rintro e w3 ⟨rfl, N', g1, g2, hr3, hn3, hb3⟩
          have HR3 := Lib.hid hr3
          have HN3 := Lib.hid hn3
          have HB3 := Lib.hid hb3
          clear hr3 hn3 hb3
          go_wp2_with fail
          go_roundw
          case rel => exact ⟨i + 1, N', by rw [HST.out], by rw [HST.out], rfl, by omega, .inl trivial, g1, g2, HR3.out, HN3.out, HBD.out.trans HB3.out⟩
          case measure => simp [intOf]; omega
    · have hgi' : g i = false := by simpa using hgi
      rw [hgi'] at HD
      have HST := Lib.hid (show bestTo g longest (i + 1) = bestTo g longest i by rw [bestTo, hgi']; rfl)
      clear hgi hgi'
      by_cases him' : i = m
      · have hneq : ((i : Int) == (m : Int)) = true := by simp; omega
        have HII := Lib.hid him'
        clear him'
        generalize hs0 : bestTo g longest i = st at *
        have HS0 := Lib.hid hs0
        clear hs0
        go_wp2_with fail
        refine HD.out.mono ?_; rintro e w2 ⟨rfl, q, rfl⟩
        go_wp2_with fail
        go_ret2
        refine ⟨?_, HK.out ▸ HBW.out.trans ⟨rfl, rfl, rfl, Nat.le_refl _, fun _ _ => rfl⟩⟩
        rw [← HII.out, HST.out]
        rfl
      · have HLO := Lib.hid hlo
        clear hlo
        generalize hs0 : bestTo g longest i = st at *
        have HS0 := Lib.hid hs0
        clear hs0
        go_wp2_with fail
        refine HD.out.mono ?_; rintro e w2 ⟨rfl, q, rfl⟩
        have him : i < m := by omega
        have hneq : ((i : Int) == (m : Int)) = false := by simp; omega
        have hjl : i < X.length := by rw [HL.out]; exact him
        have HCL := Lib.hid (HXX.out i hjl)
        have HRD := Lib.hid (show RunAt (wr.drewN q) (K0 + 1) N aL capL n (sAt l X i) from HRW.out)
        have HND := Lib.hid (show NowAt (wr.drewN q) N (n + 1) (fAt l X i) from HNW.out)
        have HBD := Lib.hid (show Below K0 w (wr.drewN q) from HBW.out.trans ⟨rfl, rfl, rfl, Nat.le_refl _, fun _ _ => rfl⟩)
        have hsb := sAt_bd l X i
        have hln := HN.out
        have HC3 := Lib.hid (take_any (wr.drewN q) K0 (K0 + 1) N aL capL n l (fAt l X i) (sAt l X i) X[i].toNat (by have := X[i].toNat_lt; omega) HN.out HRD.out HND.out (HP.out.below HBD.out) hlc hc (by omega) (by omega) hN2 hN1 hsb.1 (by
          have h1 := hsb.2
          have h2 : (i : Int) * (l.length : Int) ≤ 140737488351232 * 4096 := Int.mul_le_mul (by omega) (by omega) (by omega) (by omega)
          omega))
        have HE1 := Lib.hid (fAt_step l X i hjl)
        have HE2 := Lib.hid (sAt_step l X i hjl)
        rw [hln] at HE1 HE2
        rw [← HE1.out, ← HE2.out] at HC3
        clear hsb
        unfold iv at HCL
        generalize X[i].toNat = x at *
        go_wp2_with fail
        refine (HCL.out _ HBD.out).mono ?_; rintro e w' ⟨rfl, rfl⟩
        go_wp2_with fail
        refine HC3.out.mono ?_; rintro e w3 ⟨rfl, N', g1, g2, hr3, hn3, hb3⟩
        have HR3 := Lib.hid hr3
        have HN3 := Lib.hid hn3
        have HB3 := Lib.hid hb3
        clear hr3 hn3 hb3
        go_wp2_with fail
        go_roundw
        case rel => exact ⟨i + 1, N', by rw [HST.out], by rw [HST.out], rfl, by omega, by rw [HST.out]; exact HLO.out, g1, g2, HR3.out, HN3.out, HBD.out.trans HB3.out⟩
        case measure => simp [intOf]; omega

set_option maxRecDepth 100000 in
set_option maxHeartbeats 1600000 in
theorem upto_39 (w : World) (aL : Option Addr) (capL n : Nat) (l : List Pc) (c m : Nat) (X : List UInt8) (longest : Bool) (hn : l.length = n) (hp : HasP w w.heap.size aL l) (hlc : n ≤ capL) (hc : capL ≤ 9223372036854775807) (hnb : n ≤ 4096)
    (hX : X.length = m) (hm : m ≤ 140737488351232) (HX : ∀ i (hi : i < X.length) (W : World), Below w.heap.size w W → Calls Tryd.prog 39 #[.int .i64 i, .pointer (some ⟨c, 0, none⟩)] W fun e w' => e = .returned (.int .u8 (iv X[i])) ∧ W = w') :
    Calls Tryd.prog 32 #[.slice aL n capL, .int .i64 m, .func (.func 39) #[] #[.pointer (some ⟨c, 0, none⟩)], .bool longest] w fun e w' =>
      e = .returned (.tuple #[.int .i64 (bestTo (fun j => mat l (X.take j)) longest (m + 1)).1, .bool (bestTo (fun j => mat l (X.take j)) longest (m + 1)).2]) ∧ Below w.heap.size w w' := by
  have HC := Lib.hid (begin_any w aL capL n l hn hp hlc hc (by omega))
  have HN := Lib.hid hn
  have HP := Lib.hid hp
  have HL := Lib.hid hX
  have HXX := Lib.hid HX
  obtain ⟨g, hg⟩ : ∃ g : Nat → Bool, g = fun j => mat l (X.take j) := ⟨_, rfl⟩
  rw [← hg]
  have HG := Lib.hid (show ∀ j, fAt l X j n = g j by intro j; rw [hg, ← hn]; rfl)
  clear hg hn hp hX HX
  obtain ⟨K0, hK0⟩ : ∃ K0, w.heap.size = K0 := ⟨_, rfl⟩
  rw [hK0] at HC HP HXX
  have HK := Lib.hid hK0
  go_enter Tryd.func32, Tryd.ntmps32
  go_wp2_with fail
  refine HC.out.mono ?_; rintro e w1 ⟨rfl, hr, hnw, hb⟩
  have HR := Lib.hid hr
  have HW := Lib.hid hnw
  have HB := Lib.hid hb
  clear hr hnw hb HC
  clear hK0
  go_wp2_with fail
  go_loopw [11, 12, 13] (fun o k x wr => ∃ (i N : Nat), o = .int .i64 (bestTo g longest i).1 ∧ k = .bool (bestTo g longest i).2 ∧ x = .int .i64 i ∧ i ≤ m ∧ (longest = true ∨ (bestTo g longest i).2 = false) ∧ K0 + 1 ≠ N ∧ K0 ≤ N ∧ RunAt wr (K0 + 1) N aL capL n (sAt l X i) ∧ NowAt wr N (n + 1) (fAt l X i) ∧ Below K0 w wr) (fun _ _ x _ => m - (intOf x).toNat)
  case atStart => exact ⟨0, K0, rfl, rfl, rfl, by omega, .inr rfl, by omega, by omega, HR.out, HW.out, HB.out⟩
  case round =>
    obtain ⟨i, N, rfl, rfl, rfl, hi, hlo, hN1, hN2, hr, hnw, hb⟩ := hrel
    have HRW := Lib.hid hr
    have HNW := Lib.hid hnw
    have HBW := Lib.hid hb
    have HD := Lib.hid (done_any wr (K0 + 1) N aL capL n (fAt l X i) (sAt l X i) hr hnw)
    rw [HG.out] at HD
    clear hr hnw hb
    by_cases hgi : g i = true
    · rw [hgi] at HD
      have HGI := Lib.hid hgi
      clear hgi
      cases longest with
      | false =>
        have hst : (bestTo g false i).2 = false := by simpa using hlo
        have HBS := Lib.hid (best_stop g i (m + 1) (by omega) HGI.out hst)
        clear hlo hst
        generalize bestTo g false i = st at *
        go_wp2_with fail
        refine HD.out.mono ?_; rintro e w2 ⟨rfl, q, rfl⟩
        go_wp2_with fail
        go_ret2
        refine ⟨?_, HK.out ▸ HBW.out.trans ⟨rfl, rfl, rfl, Nat.le_refl _, fun _ _ => rfl⟩⟩
        rw [HBS.out]
        rfl
      | true =>
        have HST := Lib.hid (show bestTo g true (i + 1) = (i, true) by rw [bestTo, HGI.out]; rfl)
        clear hlo
        generalize bestTo g true i = st at *
        by_cases him' : i = m
        · have hneq : ((i : Int) == (m : Int)) = true := by simp; omega
          have HII := Lib.hid him'
          clear him'
          go_wp2_with fail
          refine HD.out.mono ?_; rintro e w2 ⟨rfl, q, rfl⟩
          go_wp2_with fail
          go_ret2
          refine ⟨?_, HK.out ▸ HBW.out.trans ⟨rfl, rfl, rfl, Nat.le_refl _, fun _ _ => rfl⟩⟩
          rw [← HII.out, HST.out]
          rfl
        · go_wp2_with fail
          refine HD.out.mono ?_; rintro e w2 ⟨rfl, q, rfl⟩
          have him : i < m := by omega
          have hneq : ((i : Int) == (m : Int)) = false := by simp; omega
          have hjl : i < X.length := by rw [HL.out]; exact him
          have HCL := Lib.hid (HXX.out i hjl)
          have HRD := Lib.hid (show RunAt (wr.drewN q) (K0 + 1) N aL capL n (sAt l X i) from HRW.out)
          have HND := Lib.hid (show NowAt (wr.drewN q) N (n + 1) (fAt l X i) from HNW.out)
          have HBD := Lib.hid (show Below K0 w (wr.drewN q) from HBW.out.trans ⟨rfl, rfl, rfl, Nat.le_refl _, fun _ _ => rfl⟩)
          have hsb := sAt_bd l X i
          have hln := HN.out
          have HC3 := Lib.hid (take_any (wr.drewN q) K0 (K0 + 1) N aL capL n l (fAt l X i) (sAt l X i) X[i].toNat (by have := X[i].toNat_lt; omega) HN.out HRD.out HND.out (HP.out.below HBD.out) hlc hc (by omega) (by omega) hN2 hN1 hsb.1 (by
            have h1 := hsb.2
            have h2 : (i : Int) * (l.length : Int) ≤ 140737488351232 * 4096 := Int.mul_le_mul (by omega) (by omega) (by omega) (by omega)
            omega))
          have HE1 := Lib.hid (fAt_step l X i hjl)
          have HE2 := Lib.hid (sAt_step l X i hjl)
          rw [hln] at HE1 HE2
          rw [← HE1.out, ← HE2.out] at HC3
          clear hsb
          unfold iv at HCL
          generalize X[i].toNat = x at *
          go_wp2_with fail
          refine (HCL.out _ HBD.out).mono ?_; rintro e w' ⟨rfl, rfl⟩
          go_wp2_with fail
          refine HC3.out.mono ?_; rintro e w3 ⟨rfl, N', g1, g2, hr3, hn3, hb3⟩
          have HR3 := Lib.hid hr3
          have HN3 := Lib.hid hn3
          have HB3 := Lib.hid hb3
          clear hr3 hn3 hb3
          go_wp2_with fail
          go_roundw
          case rel => exact ⟨i + 1, N', by rw [HST.out], by rw [HST.out], rfl, by omega, .inl trivial, g1, g2, HR3.out, HN3.out, HBD.out.trans HB3.out⟩
          case measure => simp [intOf]; omega
    · have hgi' : g i = false := by simpa using hgi
      rw [hgi'] at HD
      have HST := Lib.hid (show bestTo g longest (i + 1) = bestTo g longest i by rw [bestTo, hgi']; rfl)
      clear hgi hgi'
      by_cases him' : i = m
      · have hneq : ((i : Int) == (m : Int)) = true := by simp; omega
        have HII := Lib.hid him'
        clear him'
        generalize hs0 : bestTo g longest i = st at *
        have HS0 := Lib.hid hs0
        clear hs0
        go_wp2_with fail
        refine HD.out.mono ?_; rintro e w2 ⟨rfl, q, rfl⟩
        go_wp2_with fail
        go_ret2
        refine ⟨?_, HK.out ▸ HBW.out.trans ⟨rfl, rfl, rfl, Nat.le_refl _, fun _ _ => rfl⟩⟩
        rw [← HII.out, HST.out]
        rfl
      · have HLO := Lib.hid hlo
        clear hlo
        generalize hs0 : bestTo g longest i = st at *
        have HS0 := Lib.hid hs0
        clear hs0
        go_wp2_with fail
        refine HD.out.mono ?_; rintro e w2 ⟨rfl, q, rfl⟩
        have him : i < m := by omega
        have hneq : ((i : Int) == (m : Int)) = false := by simp; omega
        have hjl : i < X.length := by rw [HL.out]; exact him
        have HCL := Lib.hid (HXX.out i hjl)
        have HRD := Lib.hid (show RunAt (wr.drewN q) (K0 + 1) N aL capL n (sAt l X i) from HRW.out)
        have HND := Lib.hid (show NowAt (wr.drewN q) N (n + 1) (fAt l X i) from HNW.out)
        have HBD := Lib.hid (show Below K0 w (wr.drewN q) from HBW.out.trans ⟨rfl, rfl, rfl, Nat.le_refl _, fun _ _ => rfl⟩)
        have hsb := sAt_bd l X i
        have hln := HN.out
        have HC3 := Lib.hid (take_any (wr.drewN q) K0 (K0 + 1) N aL capL n l (fAt l X i) (sAt l X i) X[i].toNat (by have := X[i].toNat_lt; omega) HN.out HRD.out HND.out (HP.out.below HBD.out) hlc hc (by omega) (by omega) hN2 hN1 hsb.1 (by
          have h1 := hsb.2
          have h2 : (i : Int) * (l.length : Int) ≤ 140737488351232 * 4096 := Int.mul_le_mul (by omega) (by omega) (by omega) (by omega)
          omega))
        have HE1 := Lib.hid (fAt_step l X i hjl)
        have HE2 := Lib.hid (sAt_step l X i hjl)
        rw [hln] at HE1 HE2
        rw [← HE1.out, ← HE2.out] at HC3
        clear hsb
        unfold iv at HCL
        generalize X[i].toNat = x at *
        go_wp2_with fail
        refine (HCL.out _ HBD.out).mono ?_; rintro e w' ⟨rfl, rfl⟩
        go_wp2_with fail
        refine HC3.out.mono ?_; rintro e w3 ⟨rfl, N', g1, g2, hr3, hn3, hb3⟩
        have HR3 := Lib.hid hr3
        have HN3 := Lib.hid hn3
        have HB3 := Lib.hid hb3
        clear hr3 hn3 hb3
        go_wp2_with fail
        go_roundw
        case rel => exact ⟨i + 1, N', by rw [HST.out], by rw [HST.out], rfl, by omega, by rw [HST.out]; exact HLO.out, g1, g2, HR3.out, HN3.out, HBD.out.trans HB3.out⟩
        case measure => simp [intOf]; omega

end Go.Proofs.YtafmhhhboihdfaaDoor
