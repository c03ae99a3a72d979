/-
  What a pattern matches: Match, Steps. Conditions: those that each theorem names.
-/
import Derived.Test.YtafmhhhboihdfaaDoorPieces
namespace Go.Proofs.YtafmhhhboihdfaaDoor
open Go.RowKit
set_option linter.unusedVariables false
/-- A slice's address over bytes: empty, or the bytes' cells lie there. -/
def HasB (w : World) (a : Option Addr) (l : List UInt8) : Prop :=
  l = [] ∨ ∃ b off, a = some ⟨b, off, none⟩ ∧ b < w.heap.size ∧ ∀ i (h : i < l.length), w.cell? ⟨b, off + i, none⟩ = some (.int .u8 (iv l[i]))
theorem HasB.below {w w' : World} {a : Option Addr} {l : List UInt8} (h : HasB w a l) (hb : Below w.heap.size w w') : HasB w' a l := by
  rcases h with h | ⟨b, off, ha, hlt, hc⟩
  · exact .inl h
  · exact .inr ⟨b, off, ha, Nat.lt_of_lt_of_le hlt hb.size, fun i hi => (hb.cell (p := ⟨b, off + i, none⟩) hlt).trans (hc i hi)⟩
/-- the places after some bytes; how often a byte was compared -/
def run1 (l : List Pc) (fs : (Nat → Bool) × Int) (c : UInt8) : (Nat → Bool) × Int := (sprd l (nxtTo l fs.1 c.toNat l.length), fs.2 + cntTo l fs.1 l.length)
def runs (l : List Pc) (bs : List UInt8) : (Nat → Bool) × Int := bs.foldl (run1 l) (sprd l st0, 0)
def fAt (l : List Pc) (bs : List UInt8) (j : Nat) : Nat → Bool := (runs l (bs.take j)).1
def sAt (l : List Pc) (bs : List UInt8) (j : Nat) : Int := (runs l (bs.take j)).2
theorem runs_snoc (l : List Pc) (bs : List UInt8) (c : UInt8) : runs l (bs ++ [c]) = run1 l (runs l bs) c := by simp [runs]
theorem fAt_step (l : List Pc) (bs : List UInt8) (j : Nat) (h : j < bs.length) : fAt l bs (j + 1) = sprd l (nxtTo l (fAt l bs j) bs[j].toNat l.length) := by
  unfold fAt; rw [take_snoc _ _ h, runs_snoc]; rfl
theorem sAt_step (l : List Pc) (bs : List UInt8) (j : Nat) (h : j < bs.length) : sAt l bs (j + 1) = sAt l bs j + cntTo l (fAt l bs j) l.length := by
  unfold sAt; rw [take_snoc _ _ h, runs_snoc]; rfl
theorem runs_bd (l : List Pc) (bs : List UInt8) (f : (Nat → Bool) × Int) : f.2 ≤ (bs.foldl (run1 l) f).2 ∧ (bs.foldl (run1 l) f).2 ≤ f.2 + (bs.length : Int) * l.length := by
  induction bs generalizing f with
  | nil => simp
  | cons c bs ih =>
    have h := ih (run1 l f c)
    have hc := cnt_bd l f.1 l.length
    simp only [List.foldl_cons, List.length_cons]
    have h2 : (run1 l f c).2 = f.2 + cntTo l f.1 l.length := rfl
    have h3 : (((bs.length + 1 : Nat) : Int)) * (l.length : Int) = (bs.length : Int) * l.length + l.length := by
      push_cast; rw [Int.add_mul, Int.one_mul]
    omega
theorem sAt_bd (l : List Pc) (bs : List UInt8) (j : Nat) : 0 ≤ sAt l bs j ∧ sAt l bs j ≤ (j : Int) * l.length := by
  have h := runs_bd l (bs.take j) (sprd l st0, 0)
  refine ⟨h.1, Int.le_trans h.2 ?_⟩
  rw [Int.zero_add]
  exact Int.mul_le_mul_of_nonneg_right (by have := List.length_take_le j bs; omega) (by omega)
/-- does a pattern match some bytes from end to end? -/
def mat (l : List Pc) (bs : List UInt8) : Bool := (runs l bs).1 l.length

set_option maxRecDepth 100000 in
set_option maxHeartbeats 800000 in
theorem match_any (w : World) (q B : Nat) (a : Option Addr) (n cap : Nat) (l : List Pc) (aS : Option Addr) (m capS : Nat) (bs : List UInt8) (hn : l.length = n) (hnb : n ≤ 4096) (hq : PatAt w q a n cap) (hp : HasP w B a l)
    (hbs : HasB w aS bs) (hm : bs.length = m) (hmb : m ≤ 140737488351232) (hms : m ≤ capS) (hcs : capS ≤ 9223372036854775807) :
    Calls Tryd.prog 16 #[.pointer (some ⟨q, 0, none⟩), .slice aS m capS] w fun e w' => e = .returned (.bool (mat l bs)) ∧ Below w.heap.size w w' := by
  have HC := Lib.hid (pieces_any w q B a n cap l hn hq hp (by omega))
  have HN := Lib.hid hn
  have HS := Lib.hid hbs
  have HM := Lib.hid hm
  clear hq hp hn hbs hm
  go_enter Tryd.func16, Tryd.ntmps16
  go_wp2_with fail
  refine HC.out.mono ?_; rintro e w1 ⟨a', cap', rfl, hp, hc1, hc2, hb⟩
  have HB1 := Lib.hid hb
  have HP1 := Lib.hid hp
  have HC2 := Lib.hid (begin_any w1 a' cap' n l HN.out hp hc1 (by simpa [maxLen] using hc2) (by omega))
  have hcap : cap' ≤ 9223372036854775807 := by simpa [maxLen] using hc2
  clear hb hp hc2
  obtain ⟨K, hK⟩ : ∃ K, w1.heap.size = K := ⟨_, rfl⟩
  rw [hK] at HC2 HP1
  have HK := Lib.hid hK
  clear hK
  go_wp2_with fail
  refine HC2.out.mono ?_; rintro e w2 ⟨rfl, hr, hnw, hb⟩
  have HR2 := Lib.hid hr
  have HN2 := Lib.hid hnw
  have HB2 := Lib.hid hb
  clear hr hnw hb
  go_wp2_with fail
  go_loopw [15] (fun x wr => ∃ (j N : Nat), x = .int .i64 j ∧ j ≤ m ∧ K + 1 ≠ N ∧ K ≤ N ∧ RunAt wr (K + 1) N a' cap' n (sAt l bs j) ∧ NowAt wr N (n + 1) (fAt l bs j) ∧ Below K w1 wr) (fun x _ => m - (intOf x).toNat)
  case atStart => exact ⟨0, K, rfl, by omega, by omega, by omega, HR2.out, HN2.out, HB2.out⟩
  case round =>
    obtain ⟨j, N, rfl, hj, hN1, hN2, hr, hnw, hb⟩ := hrel
    have HRW := Lib.hid hr
    have HNW := Lib.hid hnw
    have HBW := Lib.hid hb
    have hKs : K ≤ wr.heap.size := by have := hr.lt; omega
    have hsb := sAt_bd l bs j
    have hln := HN.out
    clear hb
    by_cases hlt : j < m
    · have hltI : (j : Int) < m := by omega
      have hjl : j < bs.length := by rw [HM.out]; exact hlt
      rcases HS.out with h0 | ⟨b, off, rfl, hbl, hbc⟩
      · rw [h0] at hjl; simp at hjl
      have hbK : b < K := by have := HB1.out.size; have := HK.out; omega
      have q0 : wr.cell? ⟨b, off + j, none⟩ = some (.int .u8 (bs[j].toNat : Int)) := (HBW.out.cell (p := ⟨b, off + j, none⟩) hbK).trans ((HB1.out.cell (p := ⟨b, off + j, none⟩) hbl).trans (hbc j hjl))
      have hx : bs[j].toNat ≤ 255 := by have := bs[j].toNat_lt; omega
      have HC3 := Lib.hid (take_any wr K (K + 1) N a' cap' n l (fAt l bs j) (sAt l bs j) bs[j].toNat hx HN.out hr hnw (HP1.out.below HBW.out) hc1 hcap (by omega) (by omega) hN2 hN1 hsb.1 (by
        have h1 := hsb.2
        have h2 : (j : Int) * (l.length : Int) ≤ 140737488351232 * 4096 := Int.mul_le_mul (by omega) (by omega) (by omega) (by omega)
        omega))
      have HE1 := Lib.hid (fAt_step l bs j hjl)
      have HE2 := Lib.hid (sAt_step l bs j hjl)
      rw [hln] at HE1 HE2
      rw [← HE1.out, ← HE2.out] at HC3
      clear hbc hr hnw hsb
      generalize bs[j].toNat = x at *
      go_wp2_with fail
      refine HC3.out.mono ?_; rintro e w3 ⟨rfl, N', g1, g2, hr3, hn3, hb3⟩
      have HR3 := Lib.hid hr3
      have HN3 := Lib.hid hn3
      have HB3 := Lib.hid hb3
      clear hr3 hn3 hb3
      go_wp2_with fail
      go_roundw
      case rel => exact ⟨j + 1, N', rfl, by omega, g1, g2, HR3.out, HN3.out, HBW.out.trans HB3.out⟩
      case measure => simp [intOf]; omega
    · have hltI : ¬ (j : Int) < m := by omega
      obtain rfl : j = m := by omega
      have HFE := Lib.hid (show w.heap.size ≤ K by have := HB1.out.size; have := HK.out; omega)
      have HD := Lib.hid (done_any wr (K + 1) N a' cap' n (fAt l bs j) (sAt l bs j) hr hnw)
      have HEQ := Lib.hid (show fAt l bs j n = mat l bs by unfold fAt mat; rw [List.take_of_length_le (by rw [HM.out]; exact Nat.le_refl _), hln])
      rw [HEQ.out] at HD
      clear hr hnw hsb
      go_wp2_with fail
      refine HD.out.mono ?_; rintro e w3 ⟨rfl, k, rfl⟩
      go_wp2_with fail
      go_ret
      exact ⟨rfl, HB1.out.trans ((HBW.out.mono HFE.out).trans ⟨rfl, rfl, rfl, Nat.le_refl _, fun _ _ => rfl⟩)⟩

set_option maxRecDepth 100000 in
set_option maxHeartbeats 800000 in
theorem steps_any (w : World) (q B : Nat) (a : Option Addr) (n cap : Nat) (l : List Pc) (aS : Option Addr) (m capS : Nat) (bs : List UInt8) (hn : l.length = n) (hnb : n ≤ 4096) (hq : PatAt w q a n cap) (hp : HasP w B a l)
    (hbs : HasB w aS bs) (hm : bs.length = m) (hms : m ≤ capS) (hcs : capS ≤ 140737488351232) :
    Calls Tryd.prog 12 #[.pointer (some ⟨q, 0, none⟩), .slice aS m capS] w fun e w' => e = .returned (.int .i64 (sAt l bs m)) ∧ Below w.heap.size w w' := by
  have HC := Lib.hid (pieces_any w q B a n cap l hn hq hp (by omega))
  have HN := Lib.hid hn
  have HS := Lib.hid hbs
  have HM := Lib.hid hm
  clear hq hp hn hbs hm
  go_enter Tryd.func12, Tryd.ntmps12
  go_wp2_with fail
  refine HC.out.mono ?_; rintro e w1 ⟨a', cap', rfl, hp, hc1, hc2, hb⟩
  have HB1 := Lib.hid hb
  have HP1 := Lib.hid hp
  have HC2 := Lib.hid (begin_any w1 a' cap' n l HN.out hp hc1 (by simpa [maxLen] using hc2) (by omega))
  have hcap : cap' ≤ 9223372036854775807 := by simpa [maxLen] using hc2
  clear hb hp hc2
  obtain ⟨K, hK⟩ : ∃ K, w1.heap.size = K := ⟨_, rfl⟩
  rw [hK] at HC2 HP1
  have HK := Lib.hid hK
  clear hK
  go_wp2_with fail
  refine HC2.out.mono ?_; rintro e w2 ⟨rfl, hr, hnw, hb⟩
  have HR2 := Lib.hid hr
  have HN2 := Lib.hid hnw
  have HB2 := Lib.hid hb
  clear hr hnw hb
  go_wp2_with fail
  go_loopw [15] (fun x wr => ∃ (j N : Nat), x = .int .i64 j ∧ j ≤ m ∧ K + 1 ≠ N ∧ K ≤ N ∧ RunAt wr (K + 1) N a' cap' n (sAt l bs j) ∧ NowAt wr N (n + 1) (fAt l bs j) ∧ Below K w1 wr) (fun x _ => m - (intOf x).toNat)
  case atStart => exact ⟨0, K, rfl, by omega, by omega, by omega, HR2.out, HN2.out, HB2.out⟩
  case round =>
    obtain ⟨j, N, rfl, hj, hN1, hN2, hr, hnw, hb⟩ := hrel
    have HRW := Lib.hid hr
    have HNW := Lib.hid hnw
    have HBW := Lib.hid hb
    have hKs : K ≤ wr.heap.size := by have := hr.lt; omega
    have hsb := sAt_bd l bs j
    have hln := HN.out
    clear hb
    by_cases hlt : j < m
    · have hltI : (j : Int) < m := by omega
      have hjl : j < bs.length := by rw [HM.out]; exact hlt
      rcases HS.out with h0 | ⟨b, off, rfl, hbl, hbc⟩
      · rw [h0] at hjl; simp at hjl
      have hbK : b < K := by have := HB1.out.size; have := HK.out; omega
      have q0 : wr.cell? ⟨b, off + j, none⟩ = some (.int .u8 (bs[j].toNat : Int)) := (HBW.out.cell (p := ⟨b, off + j, none⟩) hbK).trans ((HB1.out.cell (p := ⟨b, off + j, none⟩) hbl).trans (hbc j hjl))
      have hx : bs[j].toNat ≤ 255 := by have := bs[j].toNat_lt; omega
      have HC3 := Lib.hid (take_any wr K (K + 1) N a' cap' n l (fAt l bs j) (sAt l bs j) bs[j].toNat hx HN.out hr hnw (HP1.out.below HBW.out) hc1 hcap (by omega) (by omega) hN2 hN1 hsb.1 (by
        have h1 := hsb.2
        have h2 : (j : Int) * (l.length : Int) ≤ 140737488351232 * 4096 := Int.mul_le_mul (by omega) (by omega) (by omega) (by omega)
        omega))
      have HE1 := Lib.hid (fAt_step l bs j hjl)
      have HE2 := Lib.hid (sAt_step l bs j hjl)
      rw [hln] at HE1 HE2
      rw [← HE1.out, ← HE2.out] at HC3
      clear hbc hr hnw hsb
      generalize bs[j].toNat = x at *
      go_wp2_with fail
      refine HC3.out.mono ?_; rintro e w3 ⟨rfl, N', g1, g2, hr3, hn3, hb3⟩
      have HR3 := Lib.hid hr3
      have HN3 := Lib.hid hn3
      have HB3 := Lib.hid hb3
      clear hr3 hn3 hb3
      go_wp2_with fail
      go_roundw
      case rel => exact ⟨j + 1, N', rfl, by omega, g1, g2, HR3.out, HN3.out, HBW.out.trans HB3.out⟩
      case measure => simp [intOf]; omega
    · have hltI : ¬ (j : Int) < m := by omega
      obtain rfl : j = m := by omega
      have HFE := Lib.hid (show w.heap.size ≤ K by have := HB1.out.size; have := HK.out; omega)
      obtain ⟨-, -, r2, -⟩ := hr.cells
      clear hr hnw hsb
      go_wp2_with fail
      go_ret
      exact ⟨rfl, HB1.out.trans (HBW.out.mono HFE.out)⟩

set_option maxRecDepth 100000 in
theorem match_nil (w : World) (aS : Option Addr) (m capS : Nat) : Calls Tryd.prog 16 #[.pointer none, .slice aS m capS] w fun e w' => e = .returned (.bool false) ∧ w = w' := by
  go_enter Tryd.func16, Tryd.ntmps16
  go_wp2_with fail
  go_ret
  exact ⟨rfl, rfl⟩
set_option maxRecDepth 100000 in
theorem steps_nil (w : World) (aS : Option Addr) (m capS : Nat) : Calls Tryd.prog 12 #[.pointer none, .slice aS m capS] w fun e w' => e = .returned (.int .i64 0) ∧ w = w' := by
  go_enter Tryd.func12, Tryd.ntmps12
  go_wp2_with fail
  go_ret
  exact ⟨rfl, rfl⟩
end Go.Proofs.YtafmhhhboihdfaaDoor
