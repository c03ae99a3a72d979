/-
  The law GmatchQuoted: its walk, where both texts are of 1048576 bytes at most. Conditions: those that each theorem names.
-/
import Derived.Test.YtafmhhhboihdfaaDoorQuote
namespace Go.Proofs.YtafmhhhboihdfaaDoor
open Go.RowKit
set_option linter.unusedVariables false
theorem bl_inj {s t : ByteArray} (h : bl s = bl t) : s = t := by
  cases s; cases t
  simp only [bl] at h
  exact congrArg ByteArray.mk (Array.toList_inj.1 h)
set_option maxRecDepth 100000 in
set_option maxHeartbeats 1600000 in
theorem quoted_long (w : World) (s other : ByteArray) (hg : Glob w) (hs : s.size ≤ 1048576) (hq : 256 < (quoteS (bl s)).length) :
    Calls Tryd.prog 4 #[.string s, .string other] w fun e w' => e = .returned (.bool true) ∧ Below w.heap.size w w' := by
  have HC := Lib.hid (quote_any w s hs)
  have HG := Lib.hid hg
  obtain ⟨q, hqq⟩ : ∃ q : ByteArray, ⟨(quoteS (bl s)).toArray⟩ = q := ⟨_, rfl⟩
  have hsz : q.size = (quoteS (bl s)).length := by rw [← hqq]; simp [ByteArray.size]
  have hI : (256 : Int) < (q.size : Int) := by omega
  rw [hqq] at HC
  clear hqq hsz hq hg
  go_enter Tryd.func4, Tryd.ntmps4
  go_wp2_with fail
  refine HC.out.mono ?_; rintro e w1 ⟨rfl, hb1⟩
  have HB1 := Lib.hid hb1
  have HA := Lib.hid (awake_any w1 (HG.out.below' hb1))
  clear hb1
  go_wp2_with fail
  refine HA.out.mono ?_; rintro e w2 ⟨rfl, hb2⟩
  have HB2 := Lib.hid (HB1.out.trans (hb2.mono HB1.out.size))
  clear hb2
  go_wp2_with fail
  go_ret
  exact ⟨rfl, HB2.out⟩
set_option maxRecDepth 100000 in
set_option maxHeartbeats 1600000 in
theorem quoted_on (w : World) (s other : ByteArray) (hg : Glob w) (hs : s.size ≤ 1048576) (ho : other.size ≤ 1048576) (hq : (quoteS (bl s)).length ≤ 256) :
    Calls Tryd.prog 4 #[.string s, .string other] w fun e w' => e = .returned (.bool true) ∧ Below w.heap.size w w' := by
  have HC := Lib.hid (quote_any w s hs)
  have HG := Lib.hid hg
  obtain ⟨q, hqq⟩ : ∃ q : ByteArray, ⟨(quoteS (bl s)).toArray⟩ = q := ⟨_, rfl⟩
  have hsz : q.size = (quoteS (bl s)).length := by rw [← hqq]; simp [ByteArray.size]
  have HBL := Lib.hid (show bl q = quoteS (bl s) by rw [← hqq]; simp [bl])
  have hI : ¬ (256 : Int) < (q.size : Int) := by omega
  have hqs : q.size ≤ 256 := by omega
  have HLN := Lib.hid (show (parseS (quoteS (bl s))).length ≤ 256 by have := parse_len _ (quoteS (bl s)) (Nat.le_refl _); omega)
  have HM1 := Lib.hid (show mat (parseS (quoteS (bl s))) (bl s) = true by rw [mat_quote]; simp)
  have HM2 := Lib.hid (show mat (parseS (quoteS (bl s))) (bl other) = decide (other = s) by
    rw [mat_quote, Bool.eq_iff_iff, decide_eq_true_eq, decide_eq_true_eq]
    exact ⟨fun h => bl_inj h, fun h => by rw [h]⟩)
  have hR0 : (s.toList == other.toList) = decide (other = s) := by
    rw [Bool.eq_iff_iff, beq_iff_eq, decide_eq_true_eq, toList_bl, toList_bl]
    exact ⟨fun h => bl_inj h.symm, fun h => by rw [h]⟩
  obtain ⟨R, hR⟩ : ∃ R, decide (other = s) = R := ⟨_, rfl⟩
  rw [hR] at HM2 hR0
  rw [hqq] at HC
  clear hqq hsz hq hg hR
  cases R
  all_goals
   go_enter Tryd.func4, Tryd.ntmps4
   go_wp2_with fail
   refine HC.out.mono ?_; rintro e w1 ⟨rfl, hb1⟩
   have HB1 := Lib.hid hb1
   obtain ⟨cap1, C1, fz1, hc1, hh1, hl1, hm1, hbb1⟩ := bytes_of w1 q (by omega)
   have HB2 := Lib.hid (HB1.out.trans (hbb1.mono HB1.out.size))
   have HP := Lib.hid (pread_any _ _ q.size cap1 (bl q) hh1 (HG.out.below' HB2.out) (bl_len q) hl1 hm1 hqs)
   clear hb1 hbb1 hh1 hl1 hm1
   go_wp2_with fail
   generalize (w1.alloc (.cells C1 5 fz1)).drew = W2 at *
   refine HP.out.mono ?_; rintro e w3 ⟨rfl, v3, hp3⟩
   rw [HBL.out] at hp3
   have HP3 := Lib.hid hp3
   have HB3 := Lib.hid (HB2.out.trans (hp3.b.mono HB2.out.size))
   obtain ⟨cap4, C4, fz4, hc4, hh4, hl4, hm4, hbb4⟩ := bytes_of w3 s (by omega)
   have HB4 := Lib.hid (HB3.out.trans (hbb4.mono HB3.out.size))
   have HB34 := Lib.hid hbb4
   have HP4 := Lib.hid (match_read HP3.out (by have := HLN.out; omega) _ hbb4 _ s.size cap4 (bl s) hh4 (bl_len s) (by omega) hl4 hm4)
   rw [HM1.out] at HP4
   clear hp3 hbb4 hh4 hl4 hm4
   clear hc1 HP
   go_wp2_with fail
   generalize (w3.alloc (.cells C4 5 fz4)).drew = W4 at *
   refine HP4.out.mono ?_; rintro e w5 ⟨rfl, hb5⟩
   have HB5 := Lib.hid (HB4.out.trans (hb5.mono HB4.out.size))
   have HB35 := Lib.hid (HB34.out.trans (hb5.mono HB34.out.size))
   clear hb5 hc4
   obtain ⟨cap6, C6, fz6, hc6, hh6, hl6, hm6, hbb6⟩ := bytes_of w5 other (by omega)
   have HB6 := Lib.hid (HB5.out.trans (hbb6.mono HB5.out.size))
   have HP6 := Lib.hid (match_read HP3.out (by have := HLN.out; omega) _ (HB35.out.trans (hbb6.mono HB35.out.size)) _ other.size cap6 (bl other) hh6 (bl_len other) (by omega) hl6 hm6)
   rw [HM2.out] at HP6
   clear hbb6 hh6 hl6 hm6
   go_wp2_with fail
   generalize (w5.alloc (.cells C6 5 fz6)).drew = W6 at *
   refine HP6.out.mono ?_; rintro e w7 ⟨rfl, hb7⟩
   have HB7 := Lib.hid (HB6.out.trans (hb7.mono HB6.out.size))
   have HA := Lib.hid (awake_any w7 (HG.out.below' HB7.out))
   clear hb7 hc6
   go_wp2_with fail
   refine HA.out.mono ?_; rintro e w8 ⟨rfl, hb8⟩
   have HB8 := Lib.hid (HB7.out.trans (hb8.mono HB7.out.size))
   clear hb8
   go_wp2_with fail
   go_ret
   exact ⟨rfl, HB8.out⟩
theorem GmatchQuoted_walk (w : World) (s other : ByteArray) (hg : Glob w) (hs : s.size ≤ 1048576) (ho : other.size ≤ 1048576) :
    Calls Tryd.prog 4 #[.string s, .string other] w fun e w' => e = .returned (.bool true) ∧ Below w.heap.size w w' := by
  rcases Nat.lt_or_ge 256 (quoteS (bl s)).length with h | h
  · exact quoted_long w s other hg hs h
  · exact quoted_on w s other hg hs ho h
end Go.Proofs.YtafmhhhboihdfaaDoor
