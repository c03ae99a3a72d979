/-
  The law GmatchStars: its walk. Conditions: those that each theorem names.
-/
import Derived.Test.YtafmhhhboihdfaaDoorFew
import Derived.Test.YtafmhhhboihdfaaDoorPrefix
import Derived.Test.YtafmhhhboihdfaaDoorLawSteps
import Derived.Test.YtafmhhhboihdfaaDoorApp
namespace Go.Proofs.YtafmhhhboihdfaaDoor
open Go.RowKit
set_option linter.unusedVariables false
/-- behind the reading: how far the front matches -/
theorem prefix_read {w W : World} {v : Value} {l : List Pc} (h : PtW w W v l) (hl : l.length ≤ 4096) (W' : World) (hb : Below W.heap.size W W') (aS : Option Addr) (m capS : Nat) (bs : List UInt8) (longest : Bool) (hbs : HasB W' aS bs) (hm : bs.length = m) (hms : m ≤ capS) (hcs : capS ≤ 140737488351232) :
    Calls Tryd.prog 19 #[.pointer (some ⟨w.heap.size, 0, none⟩), .slice aS m capS, .bool longest] W' fun e w' => e = .returned (.tuple #[.int .i64 (prefS l bs longest).1, .bool (prefS l bs longest).2]) ∧ Below W'.heap.size W' w' := by
  obtain ⟨a, cap, -, hq, hp⟩ := (h.below hb).out
  exact prefix_any W' w.heap.size W'.heap.size a l.length cap l aS m capS bs longest rfl hl hq hp (Nat.le_refl _) hbs hm hms hcs
/-- 's[j:]' -/
theorem tail_any (aS : Option Addr) (m cap j : Nat) (hj : j ≤ m) (hm : m ≤ cap) (hc : cap ≤ 9223372036854775807) : ∃ A, (∀ W : World, (Instr.slice 22 (.slice aS m cap) (some (.int .i64 (j : Int))) none none).run Tryd.prog W = .ok (.slice A (m - j) (cap - j)) W) ∧
    ∀ (W : World) (l : List UInt8), l.length = m → HasB W aS l → HasB W A (l.drop j) := by
  have ht' : Tryd.prog.underlying 22 = some (.slice (Tryd.prog.elem 22)) := by simp [Program.elem, Tryd.underlying22]
  have he : Tryd.prog.elem 22 = 5 := by simp [Program.elem, Tryd.underlying22]
  have hrun : ∀ W : World, (Instr.slice 22 (.slice aS m cap) (some (.int .i64 (j : Int))) none none).run Tryd.prog W = .ok (.slice (match aS with | none => none | some a => some (if cap = j then a else a.add j)) (m - j) (cap - j)) W := fun W => by
    rw [run_slice_l W 22 _ _ _ ht' .i64 _ (by omega) (by omega), he, size5]
    cases aS with
    | none => simp [Result.andThen, sliced]
    | some a =>
      by_cases h0 : cap = j
      · simp [Result.andThen, sliced, h0]
      · simp [Result.andThen, sliced, h0]
  refine ⟨_, hrun, fun W l hl hb => ?_⟩
  rcases hb with rfl | ⟨b, off, rfl, hlt, hx⟩
  · exact .inl (by simp)
  · by_cases h0 : cap = j
    · exact .inl (List.drop_of_length_le (by omega))
    · refine .inr ⟨b, off + j, ?_, hlt, fun i hi => ?_⟩
      · simp only [if_neg h0, add_off]
      · rw [List.getElem_drop, show off + j + i = off + (j + i) by omega]
        exact hx (j + i) (by simp at hi; omega)
set_option maxRecDepth 100000 in
set_option maxHeartbeats 1600000 in
/-- a pattern too long, or open -/
theorem stars_off (w : World) (aB : Option Addr) (mB capB : Nat) (b : List UInt8) (aS : Option Addr) (m capS : Nat) (hg : Glob w) (hb : HasB w aB b) (hmB : b.length = mB) (hcB : mB ≤ capB) (hrB : capB ≤ 140737488351232)
    (hc : m ≤ capS) (hr : capS ≤ 140737488351232) (hoff : 254 < mB ∨ openS b = true) :
    Calls Tryd.prog 5 #[.slice aB mB capB, .slice aS m capS] w fun e w' => e = .returned (.bool true) ∧ Below w.heap.size w w' := by
  have HF := Lib.hid (few_any w aS m capS hc hr)
  have HA := Lib.hid (awake_any w hg)
  have HO := Lib.hid (open_any w aB mB capB b hb hmB hcB hrB)
  clear hg hb hmB
  generalize min m 60 = k at *
  by_cases h1 : 254 < mB
  · have hI : (254 : Int) < (mB : Int) := by omega
    clear HO hoff
    go_enter Tryd.func5, Tryd.ntmps5
    go_wp2_with fail
    refine HF.out.mono ?_; rintro e w' ⟨rfl, rfl⟩
    go_wp2_with fail
    refine HA.out.mono ?_; rintro e w' ⟨rfl, hb'⟩
    have HB := Lib.hid hb'
    clear hb'
    go_wp2_with fail
    go_ret
    exact ⟨rfl, HB.out⟩
  · have h2 : openS b = true := hoff.resolve_left h1
    have hI : ¬ (254 : Int) < (mB : Int) := by omega
    rw [h2] at HO
    clear hoff h2
    go_enter Tryd.func5, Tryd.ntmps5
    go_wp2_with fail
    refine HF.out.mono ?_; rintro e w' ⟨rfl, rfl⟩
    go_wp2_with fail
    refine HO.out.mono ?_; rintro e w' ⟨rfl, rfl⟩
    go_wp2_with fail
    refine HA.out.mono ?_; rintro e w' ⟨rfl, hb'⟩
    have HB := Lib.hid hb'
    clear hb'
    go_wp2_with fail
    go_ret
    exact ⟨rfl, HB.out⟩
set_option maxRecDepth 100000 in
set_option maxHeartbeats 1600000 in
theorem stars_on (w : World) (aB : Option Addr) (mB capB : Nat) (b : List UInt8) (aS : Option Addr) (m capS : Nat) (s : List UInt8) (hg : Glob w) (hb : HasB w aB b) (hmB : b.length = mB) (hcB : mB ≤ capB) (hrB : capB ≤ 140737488351232)
    (hs : HasB w aS s) (hm : s.length = m) (hc : m ≤ capS) (hr : capS ≤ 140737488351232) (h254 : mB ≤ 254) (hop : openS b = false) :
    Calls Tryd.prog 5 #[.slice aB mB capB, .slice aS m capS] w fun e w' => e = .returned (.bool true) ∧ Below w.heap.size w w' := by
  have HF := Lib.hid (few_any w aS m capS hc hr)
  have HO := Lib.hid (open_any w aB mB capB b hb hmB hcB hrB)
  rw [hop] at HO
  have HC := Lib.hid (pread_any w aB mB capB b hb hg hmB hcB (by omega) (by omega))
  have HG := Lib.hid hg
  have HBB := Lib.hid hb
  have HMB := Lib.hid hmB
  have HPS := Lib.hid (parse_stars b hop)
  have HS := Lib.hid (hs.pre 60)
  have HM := Lib.hid (show (s.take 60).length = min m 60 by rw [List.length_take, hm]; omega)
  have hk : min m 60 ≤ 60 := by omega
  have hk2 : min m 60 ≤ capS := by omega
  have hln : (parseS b).length ≤ 254 := by have := parse_len _ b (Nat.le_refl _); omega
  have hI : ¬ (254 : Int) < (mB : Int) := by omega
  clear hg hb hmB hs hm hop
  generalize min m 60 = k at *
  generalize s.take 60 = S at *
  go_enter Tryd.func5, Tryd.ntmps5
  go_wp2_with fail
  refine HF.out.mono ?_; rintro e w' ⟨rfl, rfl⟩
  go_wp2_with fail
  refine HO.out.mono ?_; rintro e w' ⟨rfl, rfl⟩
  go_wp2_with fail
  refine HC.out.mono ?_; rintro e w1 ⟨rfl, v, hp⟩
  have HP := Lib.hid hp
  have HB1 := Lib.hid hp.b
  clear hp HC
  have hcv := fun (w : World) (C : Array Value) (n c : Nat) => Lib.run_convert_bytes_const (P := Tryd.prog) w 22 5 C n c Tryd.underlying22 Tryd.underlying5
  obtain ⟨v2, w2, h21, h22, h23⟩ := app_more (w1.alloc (.cells #[.int .u8 42] 5 (1, 2))) w1.heap.size (.slice (some ⟨w1.heap.size, 0, none⟩) 1 1) 1 [42] (.inl ⟨_, rfl, hasB_new w1 [42] _ _ rfl⟩) rfl aB mB capB b ((HBB.out.below HB1.out).below ((Below.refl _ _).alloc (Nat.le_refl _) _)) HMB.out (by omega) (by simp)
  obtain ⟨v3, w3, h31, h32, h33⟩ := app_more (w2.alloc (.cells #[.int .u8 42] 5)) w1.heap.size v2 (1 + mB) ([42] ++ b) (h22.below ((Below.refl _ _).alloc (Nat.le_refl _) _)) (by simp [HMB.out]; omega) (some ⟨w2.heap.size, 0, none⟩) 1 1 [42] (hasB_new w2 [42] _ _ rfl) rfl (by omega) (by have := h23.size; simp at this ⊢; omega)
  obtain ⟨a3, cap3, rfl, h34, h35, h36⟩ := h32.out (by simp [HMB.out]; omega) (by simp [maxLen]; omega)
  have HA1 := Lib.hid h21
  have HA2 := Lib.hid h31
  have b3 : Below w1.heap.size w1 w3 := ((((Below.refl _ w1).alloc (Nat.le_refl _) (.cells #[.int .u8 42] 5 (1, 2))).trans h23).alloc (by have := h23.size; simp at this; omega) (.cells #[.int .u8 42] 5)).trans h33
  have HB3 := Lib.hid (HB1.out.trans (b3.mono HB1.out.size))
  have HB13 := Lib.hid b3
  have HG3 := Lib.hid (HG.out.below' HB3.out)
  have HC3 := Lib.hid (pread_any w3 a3 (1 + mB + 1) cap3 ([42] ++ b ++ [42]) h34 HG3.out (by simp [HMB.out]; omega) h35 (by simp [maxLen] at h36; omega) (by omega))
  clear h21 h22 h23 h31 h32 h33 h34 h35 h36 b3
  go_wp2_with (first | (at_builtin; refine wpList_append_run rfl (.tmp 24) (.tmp 25) _ rfl _ _ _ rfl rfl HA1.out ?_) | (at_builtin; refine wpList_append_run rfl (.tmp 26) (.tmp 27) _ rfl _ _ _ rfl rfl HA2.out ?_))
  refine HC3.out.mono ?_; rintro e w4 ⟨rfl, v4, hp4⟩
  have HP4 := Lib.hid hp4
  have HB34 := Lib.hid hp4.b
  have HB4 := Lib.hid (HB3.out.trans (hp4.b.mono HB3.out.size))
  have HB14 := Lib.hid (HB13.out.trans (hp4.b.mono HB13.out.size))
  clear hp4 HC3 HA1 HA2 hcv
  go_wp2_with fail
  have HMS := Lib.hid (show mat (parseS ([42] ++ b ++ [42])) S = someS (parseS b) S (k + 1) by
    have e : [42] ++ b ++ [42] = 42 :: (b ++ [42]) := rfl
    rw [e, HPS.out, mat_stars, HM.out])
  clear HO HF
  go_loopw [7, 8] (fun o i wr => ∃ j : Nat, o = .bool (someS (parseS b) S j) ∧ i = .int .i64 j ∧ j ≤ k + 1 ∧ Below w4.heap.size w4 wr) (fun _ i _ => k + 1 - (intOf i).toNat)
  case atStart => exact ⟨0, rfl, rfl, by omega, Below.refl _ _⟩
  case round =>
    obtain ⟨j, rfl, rfl, hj, hbel⟩ := hrel
    have HBR := Lib.hid hbel
    clear hbel
    have HB1R := Lib.hid (HB14.out.trans (HBR.out.mono HB14.out.size))
    have HBW := Lib.hid (HB4.out.trans (HBR.out.mono HB4.out.size))
    by_cases hjk : j ≤ k
    · have hi : (j : Int) ≤ (k : Int) := by omega
      obtain ⟨A, hA, hAS⟩ := tail_any aS k capS j hjk hk2 (by omega)
      have HPX := Lib.hid (prefix_read HP.out (by omega) wr HB1R.out A (k - j) (capS - j) (S.drop j) false (hAS wr S HM.out (HS.out.below HBW.out)) (by rw [List.length_drop, HM.out]) (by omega) (by omega))
      have HSM := Lib.hid (show someS (parseS b) S (j + 1) = (someS (parseS b) S j || (prefS (parseS b) (S.drop j) false).2) from rfl)
      obtain ⟨X, hX⟩ : ∃ X, prefS (parseS b) (S.drop j) false = X := ⟨_, rfl⟩
      rw [hX] at HPX HSM
      clear hX hAS
      obtain ⟨x1, x2⟩ := X
      obtain ⟨sv, hsv⟩ : ∃ sv, someS (parseS b) S j = sv := ⟨_, rfl⟩
      rw [hsv] at HSM ⊢
      clear hsv
      cases sv
      all_goals
        go_wp2_with fail
        refine HPX.out.mono ?_; rintro e w5 ⟨rfl, hb5⟩
        have HB5 := Lib.hid (HBR.out.trans (hb5.mono HBR.out.size))
        clear hb5
        go_wp2_with fail
        go_roundw
        case rel => exact ⟨j + 1, by rw [HSM.out]; rfl, by go_num, by omega, HB5.out⟩
        case measure => simp [intOf]; omega
    · obtain rfl : j = k + 1 := by omega
      have hi : ¬ ((k : Int) + 1 ≤ (k : Int)) := by omega
      have HPX := Lib.hid (match_read HP4.out (by have := parse_len _ ([42] ++ b ++ [42]) (Nat.le_refl _); simp [HMB.out] at this; simp; omega) wr HBR.out aS k capS S (HS.out.below HBW.out) HM.out (by omega) hk2 (by omega))
      rw [HMS.out] at HPX
      obtain ⟨sv, hsv⟩ : ∃ sv, someS (parseS b) S (k + 1) = sv := ⟨_, rfl⟩
      rw [hsv] at HPX ⊢
      clear hsv
      cases sv
      all_goals
        go_wp2_with fail
        refine HPX.out.mono ?_; rintro e w5 ⟨rfl, hb5⟩
        have HB5 := Lib.hid (HBW.out.trans (hb5.mono HBW.out.size))
        have HA := Lib.hid (awake_any w5 (HG.out.below' HB5.out))
        clear hb5
        go_wp2_with fail
        refine HA.out.mono ?_; rintro e w6 ⟨rfl, hb6⟩
        have HB6 := Lib.hid (HB5.out.trans (hb6.mono HB5.out.size))
        clear hb6
        go_wp2_with fail
        go_ret
        exact ⟨rfl, HB6.out⟩
theorem GmatchStars_walk (w : World) (aB : Option Addr) (mB capB : Nat) (b : List UInt8) (aS : Option Addr) (m capS : Nat) (s : List UInt8) (hg : Glob w) (hb : HasB w aB b) (hmB : b.length = mB) (hcB : mB ≤ capB) (hrB : capB ≤ 140737488351232)
    (hs : HasB w aS s) (hm : s.length = m) (hc : m ≤ capS) (hr : capS ≤ 140737488351232) :
    Calls Tryd.prog 5 #[.slice aB mB capB, .slice aS m capS] w fun e w' => e = .returned (.bool true) ∧ Below w.heap.size w w' := by
  by_cases h1 : 254 < mB
  · exact stars_off w aB mB capB b aS m capS hg hb hmB hcB hrB hc hr (.inl h1)
  · cases h2 : openS b with
    | true => exact stars_off w aB mB capB b aS m capS hg hb hmB hcB hrB hc hr (.inr h2)
    | false => exact stars_on w aB mB capB b aS m capS s hg hb hmB hcB hrB hs hm hc hr (by omega) h2
end Go.Proofs.YtafmhhhboihdfaaDoor
