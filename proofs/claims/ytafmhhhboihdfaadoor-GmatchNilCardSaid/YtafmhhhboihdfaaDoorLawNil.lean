/-
  The law GmatchNil: its walk. Conditions: those that each theorem names.
-/
import Derived.Test.YtafmhhhboihdfaaDoorSuffix
import Derived.Test.YtafmhhhboihdfaaDoorSelLib
namespace Go.Proofs.YtafmhhhboihdfaaDoor
open Go.RowKit
set_option linter.unusedVariables false
/-- strings in a row -/
def HasN (w : World) (a : Option Addr) (l : List ByteArray) : Prop :=
  l = [] ∨ ∃ b off, a = some ⟨b, off, none⟩ ∧ b < w.heap.size ∧ ∀ i (h : i < l.length), w.cell? ⟨b, off + i, none⟩ = some (.string l[i])
theorem HasN.below {w w' : World} {a : Option Addr} {l : List ByteArray} (h : HasN w a l) (hb : Below w.heap.size w w') : HasN w' a l := by
  rcases h with h | ⟨b, off, ha, hlt, hc⟩
  · exact .inl h
  · exact .inr ⟨b, off, ha, Nat.lt_of_lt_of_le hlt hb.size, fun i hi => (hb.cell (p := ⟨b, off + i, none⟩) hlt).trans (hc i hi)⟩
set_option maxRecDepth 100000 in
set_option maxHeartbeats 1600000 in
theorem select_nil (w : World) (a : Option Addr) (n cap : Nat) (l : List ByteArray) (hn : l.length = n) (hl : HasN w a l) (hlc : n ≤ cap) (hc : cap ≤ 9223372036854775807) :
    Calls Tryd.prog 25 #[.pointer none, .slice a n cap] w fun e w' => e = .returned (.slice none 0 0) ∧ Below w.heap.size w w' := by
  have HN := Lib.hid hn
  have HL := Lib.hid hl
  have hcv := fun (w : World) (s : ByteArray) => run_bytes_of_string (P := Tryd.prog) w 9 22 5 s Tryd.underlying9 Tryd.underlying22 Tryd.underlying5
  have HCV := Lib.hid hcv
  clear hn hl hcv
  go_enter Tryd.func25, Tryd.ntmps25
  go_wp2_with fail
  refine (pieces_nil w).mono ?_; rintro e w' ⟨rfl, rfl⟩
  go_wp2_with fail
  go_quiet (fail)
  go_wp2_with fail
  have HB0 := Lib.hid (show Below w.heap.size w (w.drewN nq) from below_of_grown (drewN_grown w nq none) (Nat.le_refl _) (fun k e => by cases e))
  go_loopw [7, 32] (fun o i wr => ∃ j : Nat, o = .slice none 0 0 ∧ i = .int .i64 j ∧ j ≤ n ∧ Below w.heap.size w wr) (fun _ i _ => n - (intOf i).toNat)
  case atStart => exact ⟨0, rfl, rfl, by omega, HB0.out⟩
  case round =>
    obtain ⟨j, rfl, rfl, hj, hbel⟩ := hrel
    have HB := Lib.hid hbel
    clear hbel
    by_cases hlt : j < n
    · have hji : (j : Int) < (n : Int) := by omega
      rcases HL.out.below HB.out with h0 | ⟨b, off, rfl, hb2, hx⟩
      · have := HN.out; rw [h0] at this; simp at this; omega
      have c0 := hx j (by rw [HN.out]; exact hlt)
      generalize l[j]'(by rw [HN.out]; exact hlt) = s at *
      clear hx
      have HH := Lib.hid (hasprefix_any s ⟨#[46]⟩ wr)
      generalize Lib.hasPrefix (bl s) (bl ⟨#[46]⟩) = hp at *
      cases hp
      · have hcv1 := HCV.out wr s
        have HBV := Lib.hid (show Below wr.heap.size wr (wr.alloc (.cells (bytesRow s (grownCap wr s.size 0 5)) 5 ((bytesRow s (grownCap wr s.size 0 5)).size, (bytesRow s (grownCap wr s.size 0 5)).size + 1))).drew from ((Below.refl _ _).alloc (Nat.le_refl _) _).drew)
        go_wp2_with fail
        refine HH.out.mono ?_; rintro e w' ⟨rfl, rfl⟩
        go_wp2_with fail
        generalize (wr.alloc (.cells (bytesRow s (grownCap wr s.size 0 5)) 5 ((bytesRow s (grownCap wr s.size 0 5)).size, (bytesRow s (grownCap wr s.size 0 5)).size + 1))).drew = W at *
        refine (match_nil W _ _ _).mono ?_; rintro e w' ⟨rfl, rfl⟩
        have HBN := Lib.hid (HB.out.trans (HBV.out.mono HB.out.size))
        go_wp2_with fail
        go_roundw
        case rel => exact ⟨j + 1, rfl, by go_num, by omega, HBN.out⟩
        case measure => simp [intOf]; omega
      · go_wp2_with fail
        refine HH.out.mono ?_; rintro e w' ⟨rfl, rfl⟩
        go_wp2_with fail
        go_roundw
        case rel => exact ⟨j + 1, rfl, by go_num, by omega, HB.out⟩
        case measure => simp [intOf]; omega
    · obtain rfl : j = n := by omega
      go_wp2_with fail
      refine (sort_none none 0 wr).mono ?_; rintro e w' ⟨rfl, rfl⟩
      go_wp2_with fail
      refine (compact_none none 0 wr).mono ?_; rintro e w' ⟨rfl, rfl⟩
      go_wp2_with fail
      refine (clip_any none 0 0 wr (by omega) (by omega)).mono ?_; rintro e w' ⟨rfl, rfl⟩
      go_wp2_with fail
      go_ret
      exact ⟨rfl, HB.out⟩
set_option maxRecDepth 100000 in
set_option maxHeartbeats 1600000 in
theorem GmatchNil_walk (w : World) (aS : Option Addr) (m capS : Nat) (s : List UInt8) (aN : Option Addr) (n capN : Nat) (l : List ByteArray) (longest : Bool) (hg : Glob w) (hs : HasB w aS s) (hm : s.length = m) (hc : m ≤ capS) (hr : capS ≤ 140737488351232)
    (hl : HasN w aN l) (hn : l.length = n) (hlc : n ≤ capN) (hcN : capN ≤ 9223372036854775807) :
    Calls Tryd.prog 10 #[.slice aS m capS, .slice aN n capN, .bool longest] w fun e w' => e = .returned (.bool true) ∧ Below w.heap.size w w' := by
  have HG := Lib.hid hg
  have HL := Lib.hid hl
  have HN := Lib.hid hn
  clear hg hl hn hs hm
  go_enter Tryd.func10, Tryd.ntmps10
  go_wp2_with fail
  refine (prefix_nil w aS m capS longest).mono ?_; rintro e w1 ⟨rfl, hb1⟩
  have HB1 := Lib.hid hb1
  clear hb1
  go_wp2_with fail
  refine (suffix_nil w1 aS m capS longest).mono ?_; rintro e w2 ⟨rfl, hb2⟩
  have HB2 := Lib.hid (HB1.out.trans (hb2.mono HB1.out.size))
  clear hb2
  go_wp2_with fail
  refine (match_nil w2 aS m capS).mono ?_; rintro e w' ⟨rfl, rfl⟩
  go_wp2_with fail
  refine (steps_nil w2 aS m capS).mono ?_; rintro e w' ⟨rfl, rfl⟩
  go_wp2_with fail
  refine (select_nil w2 aN n capN l HN.out (HL.out.below HB2.out) hlc hcN).mono ?_; rintro e w3 ⟨rfl, hb3⟩
  have HB3 := Lib.hid (HB2.out.trans (hb3.mono HB2.out.size))
  have HA := Lib.hid (awake_any w3 (HG.out.below' HB3.out))
  clear hb3
  go_wp2_with fail
  refine HA.out.mono ?_; rintro e w4 ⟨rfl, hb4⟩
  have HB4 := Lib.hid (HB3.out.trans (hb4.mono HB3.out.size))
  clear hb4
  go_wp2_with fail
  go_ret
  exact ⟨rfl, HB4.out⟩
end Go.Proofs.YtafmhhhboihdfaaDoor
