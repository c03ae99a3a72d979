/-
  The walk of the law ScanNoughts. Conditions: those that each theorem names.
-/
import Derived.Test.YtcmeijeddjckjaaLawBack
import Derived.Test.YtcmeijeddjckjaaPlain5
namespace Go.Proofs.Ytcmeijeddjckjaa
open Go.RowKit
theorem bl_app (a b : ByteArray) : bl (a ++ b) = bl a ++ bl b := by
  unfold bl; rw [ByteArray.data_append]; simp
theorem conv_str (w : World) (a : Option Addr) (cap : Nat) (l : List UInt8) (h : HasB w a l) : (convert 22 9 (.slice a l.length cap)).run Try.prog w = .ok (.string ⟨l.toArray⟩) w := by
  rcases h with rfl | ⟨b, off, rfl, _, hc⟩
  · cases a with
    | none => rw [run_convert_bytes_string w 22 9 5 none _ cap Try.underlying22 Try.underlying5 Try.underlying9]; simp [Conv.bytesToString]; rfl
    | some a => exact run_convert_bytes_back w 22 9 5 a cap [] Try.underlying22 Try.underlying5 Try.underlying9 (fun j hj => absurd hj (by simp))
  · refine run_convert_bytes_back w 22 9 5 ⟨b, off, none⟩ cap l Try.underlying22 Try.underlying5 Try.underlying9 fun j hj => ?_
    have hadd : (⟨b, off, none⟩ : Addr).add j = ⟨b, off + j, none⟩ := by unfold Addr.add; split <;> simp_all
    rw [hadd]; exact hc j hj
theorem baseS (n base : Int) (up : Bool) (w : World) (h0 : 0 ≤ n) (h1 : n ≤ 18446744073709551615) (hb : 2 ≤ base) (hb2 : base ≤ 16) (S : ByteArray) (hS : (⟨(bs up base n).toArray⟩ : ByteArray) = S) :
    Calls Try.prog 19 #[.int .u64 n, .int .i64 base, .bool up] w fun e w' => e = .returned (.string S) ∧ Below w.heap.size w w' := by
  rw [← hS]; exact base_any n base up w h0 h1 hb hb2
theorem below_mono_refl {w a : World} (h : Below w.heap.size w a) : Below w.heap.size w a := h
theorem const_n (a : Option Addr) (n cap : Nat) (l : List UInt8) (w : World) (hn : l.length = n) (hb : HasB w a l) (hl : n ≤ 4611686018427387904) (hcap : n ≤ cap) :
    Calls Try.prog 14 #[.slice a n cap] w fun e w' => e = .returned (.tuple #[.int .i64 (cst l).1, .int .i64 (cst l).2.1, .bool (cst l).2.2]) ∧ w = w' := by
  subst hn; exact const_any a cap l w hb hl hcap
theorem mod30 (x : Int) : 0 ≤ (wrap64 (x.tmod 30 + 30)).tmod 30 ∧ (wrap64 (x.tmod 30 + 30)).tmod 30 < 30 := by
  have h : -30 < x.tmod 30 ∧ x.tmod 30 < 30 := by
    rcases Int.le_total 0 x with h | h
    · rw [Int.tmod_eq_emod_of_nonneg h]; omega
    · have : x.tmod 30 = -((-x).tmod 30) := by rw [Int.neg_tmod, Int.neg_neg]
      rw [this, Int.tmod_eq_emod_of_nonneg (by omega)]; omega
  rw [IntWalk.wrap64_in _ (by omega), Int.tmod_eq_emod_of_nonneg (by omega)]
  omega
set_option maxRecDepth 100000 in
set_option maxHeartbeats 2000000 in
theorem ScanNoughts_walk (n0 base noughts : Int) (a : Option Addr) (cap : Nat) (l : List UInt8) (w : World) (hn : 0 ≤ n0 ∧ n0 ≤ 18446744073709551615) (_hb : -9223372036854775808 ≤ base ∧ base ≤ 9223372036854775807) (_hno : -9223372036854775808 ≤ noughts ∧ noughts ≤ 9223372036854775807)
    (hb : HasB w a l) (hlc : l.length ≤ cap) (hr : cap ≤ 140737488351232) :
    Calls Try.prog 5 #[.int .u64 n0, .int .i64 base, .int .i64 noughts, .slice a l.length cap] w fun e w' => e = .returned (.bool true) ∧ Below w.heap.size w w' := by
  by_cases hbase : 2 ≤ base ∧ base ≤ 16
  · obtain ⟨hb1, hb2⟩ := hbase
    have hnn : 0 ≤ n0 / 2 ∧ n0 / 2 ≤ big := by unfold big; omega
    have hm := mod30 noughts
    obtain ⟨S, hS⟩ : ∃ S : ByteArray, (⟨(bs false base (n0 / 2)).toArray⟩ : ByteArray) = S := ⟨_, rfl⟩
    have hSl : bl S = bs false base (n0 / 2) := by rw [← hS, bl_mk]
    have hSz : S.size ≤ 64 := by rw [← bl_len, hSl]; exact bs_len _ _ _
    obtain ⟨U, hU⟩ : ∃ U : ByteArray, (⟨(bs true 16 (n0 / 2)).toArray⟩ : ByteArray) = U := ⟨_, rfl⟩
    have hUl : bl U = bs true 16 (n0 / 2) := by rw [← hU, bl_mk]
    have hUz : U.size ≤ 64 := by rw [← bl_len, hUl]; exact bs_len _ _ _
    obtain ⟨V, hV⟩ : ∃ V : ByteArray, (⟨(bs false 16 (n0 / 2)).toArray⟩ : ByteArray) = V := ⟨_, rfl⟩
    have hVl : bl V = bs false 16 (n0 / 2) := by rw [← hV, bl_mk]
    have hVz : V.size ≤ 64 := by rw [← bl_len, hVl]; exact bs_len _ _ _
    have C1 := Lib.hid (fun w => baseS (n0 / 2) base false w hnn.1 (by unfold big at hnn; omega) hb1 hb2 S hS)
    have C2 := Lib.hid (fun w => baseS (n0 / 2) 16 true w hnn.1 (by unfold big at hnn; omega) (by omega) (by omega) U hU)
    have C3 := Lib.hid (fun w => baseS (n0 / 2) 16 false w hnn.1 (by unfold big at hnn; omega) (by omega) (by omega) V hV)
    have D1 := Lib.hid (dig_number hb1 hb2 hnn.1 hnn.2)
    have D2 := Lib.hid (dig_noughts hb1 hb2 hnn.1 hnn.2)
    have D3 := Lib.hid (cst_hex hnn.1 hnn.2)
    rw [← hSl] at D1 D2
    rw [← hUl, ← hVl] at D3
    rw [bl_len] at D1 D2 D3
    clear hSl hUl hVl hS hU hV
    unfold big at hnn
    have kc := fun (w : World) (s : ByteArray) => run_bytes_of_string (P := Try.prog) w 9 22 5 s Try.underlying9 Try.underlying22 Try.underlying5
    go_enter Try.func5, Try.ntmps5
    go_wp2_with fail
    generalize n0 / 2 = n at *
    generalize (wrap64 (noughts.tmod 30 + 30)).tmod 30 = nn at *
    obtain ⟨m, rfl⟩ := Int.eq_ofNat_of_zero_le hm.1
    refine (C1.out _).mono ?_; rintro e w1 ⟨rfl, hw1⟩
    go_wp2_with fail
    refine (sdigits_n _ S.size _ (bl S) base _ (bl_len S) ((conv_has w1 S _ _).below (Below.refl _ _).drew) (by rw [bl_len]; omega)).mono ?_; rintro e w2 ⟨rfl, rfl⟩
    rw [D1.out.1, D1.out.2.1, D1.out.2.2]
    have hw2 := below_go hw1 (((Below.refl _ _).alloc (Nat.le_refl _) (Obj.cells (bytesRow S (grownCap w1 S.size 0 5)) 5 ((bytesRow S (grownCap w1 S.size 0 5)).size, (bytesRow S (grownCap w1 S.size 0 5)).size + 1))).drew)
    go_wp2_with fail
    generalize (w1.alloc (Obj.cells (bytesRow S (grownCap w1 S.size 0 5)) 5 ((bytesRow S (grownCap w1 S.size 0 5)).size, (bytesRow S (grownCap w1 S.size 0 5)).size + 1))).drew = w2 at *
    generalize grownCap w1 S.size 0 5 = cp at *
    go_loop [13, 45] (fun t k => ∃ (j : Nat) (T : ByteArray), j ≤ m ∧ t = .string T ∧ k = .int .i64 j ∧ T.size = j ∧ Hid (bl T = List.replicate j 48)) (fun _ k => m - (intOf k).toNat)
    case atStart => exact ⟨0, _, by omega, rfl, rfl, rfl, rfl⟩
    case round =>
      obtain ⟨j, T, hj, rfl, rfl, hTs, hTl⟩ := hrel
      by_cases hlt : j < m
      · have HTs := Lib.hid hTs
        have hTs2 : T.size ≤ 30 := by omega
        clear hTs
        go_wp2_with fail
        go_round
        case rel => exact ⟨j + 1, T ++ ⟨#[48]⟩, by omega, rfl, by go_num, by rw [ByteArray.size_append, HTs.out]; rfl, by show bl _ = _; rw [bl_app, hTl.out, List.replicate_succ']; rfl⟩
        case measure => simp [intOf]; omega
      · obtain ⟨X, hX⟩ : ∃ X : ByteArray, (⟨l.toArray⟩ : ByteArray) = X := ⟨_, rfl⟩
        have hcs := conv_str w2 a cap l (hb.below hw2)
        rw [hX] at hcs
        have HXl := Lib.hid (show bl X = l by rw [← hX, bl_mk])
        have hXz : X.size ≤ 140737488351232 := by rw [← bl_len, HXl.out]; omega
        have HTs := Lib.hid (show T.size = m by omega)
        have hTs2 : T.size ≤ 30 := by omega
        have HTl := Lib.hid (show bl T = List.replicate m 48 by rw [hTl.out]; congr 1; omega)
        clear hX hTs hTl
        go_wp2_with fail
        have HL := Lib.hid (show bl (T ++ S ++ ⟨#[122]⟩ ++ X) = List.replicate m 48 ++ bl S ++ 122 :: l by rw [bl_app, bl_app, bl_app, HTl.out, HXl.out]; simp [bl])
        have HC := Lib.hid (show (bl (T ++ S ++ ⟨#[122]⟩ ++ X)).length = T.size + S.size + 1 + X.size by rw [bl_len, ByteArray.size_append, ByteArray.size_append, ByteArray.size_append]; rfl)
        have HU := Lib.hid (show bl (⟨#[48, 120]⟩ ++ U ++ ⟨#[33]⟩) = 48 :: 120 :: (bl U ++ [33]) by rw [bl_app, bl_app]; simp [bl])
        have HV := Lib.hid (show (bl (⟨#[48, 120]⟩ ++ U ++ ⟨#[33]⟩)).length = 2 + U.size + 1 by rw [bl_len, ByteArray.size_append, ByteArray.size_append]; rfl)
        have hny : T.size + S.size + 1 + X.size ≤ 281474976710656 := by omega
        generalize T ++ S ++ ⟨#[122]⟩ ++ X = Y at *
        generalize T.size + S.size + 1 + X.size = ny at *
        have hcv := (conv_has w2 Y (grownCap w2 ny 0 5) ((bytesRow Y (grownCap w2 ny 0 5)).size, (bytesRow Y (grownCap w2 ny 0 5)).size + 1)).below (Below.refl _ _).drew
        have hw3 := below_go hw2 (((Below.refl _ _).alloc (Nat.le_refl _) (Obj.cells (bytesRow Y (grownCap w2 ny 0 5)) 5 ((bytesRow Y (grownCap w2 ny 0 5)).size, (bytesRow Y (grownCap w2 ny 0 5)).size + 1))).drew)
        generalize (w2.alloc (Obj.cells (bytesRow Y (grownCap w2 ny 0 5)) 5 ((bytesRow Y (grownCap w2 ny 0 5)).size, (bytesRow Y (grownCap w2 ny 0 5)).size + 1))).drew = w3 at *
        generalize grownCap w2 ny 0 5 = cq at *
        refine (sdigits_n (some ⟨w2.heap.size, 0, none⟩) ny cq (bl Y) base w3 HC.out hcv (by rw [HC.out]; omega)).mono ?_; rintro e w3' ⟨rfl, rfl⟩
        rw [HL.out, (D2.out m l).1, (D2.out m l).2.1, (D2.out m l).2.2]
        clear hcs
        go_wp2_with fail
        refine (C2.out _).mono ?_; rintro e w4 ⟨rfl, hw4⟩
        have hw4' := below_go hw3 hw4
        clear hw4 hw3
        go_wp2_with fail
        have hnz : 2 + U.size + 1 ≤ 100 := by omega
        generalize (⟨#[48, 120]⟩ : ByteArray) ++ U ++ ⟨#[33]⟩ = Z at *
        generalize 2 + U.size + 1 = nz at *
        have hcz := (conv_has w4 Z (grownCap w4 nz 0 5) ((bytesRow Z (grownCap w4 nz 0 5)).size, (bytesRow Z (grownCap w4 nz 0 5)).size + 1)).below (Below.refl _ _).drew
        have hw5 := below_go hw4' (((Below.refl _ _).alloc (Nat.le_refl _) (Obj.cells (bytesRow Z (grownCap w4 nz 0 5)) 5 ((bytesRow Z (grownCap w4 nz 0 5)).size, (bytesRow Z (grownCap w4 nz 0 5)).size + 1))).drew)
        generalize (w4.alloc (Obj.cells (bytesRow Z (grownCap w4 nz 0 5)) 5 ((bytesRow Z (grownCap w4 nz 0 5)).size, (bytesRow Z (grownCap w4 nz 0 5)).size + 1))).drew = w5 at *
        have hge := grownCap_ge w4 nz 0 5
        generalize grownCap w4 nz 0 5 = cz at *
        refine (const_n (some ⟨w4.heap.size, 0, none⟩) nz cz (bl Z) w5 HV.out hcz (by omega) hge).mono ?_; rintro e w5' ⟨rfl, rfl⟩
        rw [HU.out, D3.out]
        have hVz' : (V.size : Int) ≤ 64 := by omega
        clear hcv hcz hw4' hge
        go_wp2_with fail
        refine (C3.out _).mono ?_; rintro e w6 ⟨rfl, hw6⟩
        go_wp2_with fail
        refine (awake_any _).mono ?_; rintro e w7 ⟨rfl, hw7⟩
        go_wp2_with fail
        go_ret
        exact ⟨rfl, below_go (below_go hw5 hw6) hw7⟩
  · rcases (show base < 2 ∨ 16 < base by omega) with h | h
    all_goals
      clear hbase
      go_enter Try.func5, Try.ntmps5
      go_wp2_with fail
      refine (awake_any _).mono ?_; rintro e w3 ⟨rfl, hw3⟩
      go_wp2_with fail
      go_ret
      exact ⟨rfl, hw3⟩
end Go.Proofs.Ytcmeijeddjckjaa
