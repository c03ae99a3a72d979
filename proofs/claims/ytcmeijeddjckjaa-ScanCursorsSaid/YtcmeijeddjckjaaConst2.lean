/-
  pidginref2.Const computes the plain function. Conditions: those that each theorem names.
-/
import Derived.Test.YtcmeijeddjckjaaConst
namespace Go.Proofs.Ytcmeijeddjckjaa
open Go.RowKit
set_option maxHeartbeats 2000000 in
theorem rconst_any (a : Option Addr) (cap : Nat) (l : List UInt8) (w : World) (hb : HasB w a l) (hl : l.length ≤ 4611686018427387904) (hcap : l.length ≤ cap) :
    Calls Try.prog 15 #[.slice a l.length cap] w fun e w' => e = .returned (.tuple #[.int .i64 (cst l).1, .int .i64 (cst l).2.1, .bool (cst l).2.2]) ∧ w = w' := by
  rw [← rcst_eq]
  have C12 := Lib.hid (fun base => rdigits_any a cap l base w hb hl)
  by_cases h0 : l = []
  · have E := Lib.hid (show rcst l = d3 10 l by simp [rcst, h0])
    have C := Lib.hid (C12.out 10)
    clear C12
    have hz : l.length = 0 := by simp [h0]
    clear h0
    go_enter Try.func15, Try.ntmps15
    go_wp2_with fail
    rw [← hz]
    refine C.out.mono ?_; rintro e w' ⟨rfl, rfl⟩
    go_wp2_with fail
    go_ret3
    rw [E.out]; exact ⟨rfl, rfl⟩
  · have hlen : 0 < l.length := List.length_pos_iff.2 h0
    obtain ⟨b, off, rfl, hbs, hc⟩ := hb.at hlen
    have hc0 : w.cell? ⟨b, off, none⟩ = some (.int .u8 (iv (l.getD 0 0))) := by rw [getD_lt hlen]; exact hc 0 hlen
    have hc1 : 1 < l.length → w.cell? ⟨b, off + 1, none⟩ = some (.int .u8 (iv (l.getD 1 0))) := fun h => by rw [getD_lt h]; exact hc 1 h
    have hc2 : 2 < l.length → w.cell? ⟨b, off + 2, none⟩ = some (.int .u8 (iv (l.getD 2 0))) := fun h => by rw [getD_lt h]; exact hc 2 h
    have hx0 := iv_lo (l.getD 0 0)
    have hx1 := iv_lo (l.getD 1 0)
    have hy0 := iv_hi (l.getD 0 0)
    have hy1 := iv_hi (l.getD 1 0)
    have hx2 := iv_lo (l.getD 2 0)
    have hy2 := iv_hi (l.getD 2 0)
    have HC := Lib.hid hc
    have hp : (0 : Int) < (l.length : Int) := by omega
    clear hc hb
    by_cases h2 : iv (l.getD 0 0) = 48
    · have C8 := Lib.hid (C12.out 8)
      have H2 := Lib.hid h2
      rw [h2] at hc0; clear hx0 hy0 h2
      by_cases h3 : 2 < l.length ∧ (iv (l.getD 1 0) = 120 ∨ iv (l.getD 1 0) = 88)
      · obtain ⟨h3, h4⟩ := h3
        have hc1' := hc1 (by omega)
        have hc2' := hc2 h3
        have Hcap := Lib.hid (HasB.drop (k := 2) hbs HC.out)
        have C16 := Lib.hid (rdigits_n _ (l.length - 2) (cap - 2) (l.drop 2) 16 w (by simp) Hcap.out (by simp; omega))
        have E1 := Lib.hid (show dgv 99 (iv (l.getD 2 0)) < 16 → rcst l = (digN 16 (l.drop 2), (digK 16 (l.drop 2) : Int) + 2, digO 16 (l.drop 2)) by
          intro h; unfold rcst; rw [if_pos ⟨h3, H2.out, h4, h⟩])
        have E2 := Lib.hid (show ¬ dgv 99 (iv (l.getD 2 0)) < 16 → rcst l = d3 8 l by
          intro h; unfold rcst; rw [if_neg (fun k => h k.2.2.2), if_pos ⟨hlen, H2.out⟩])
        have CV := Lib.hid (value_any (iv (l.getD 2 0)) w hx2 hy2)
        have hk : digK 16 (l.drop 2) ≤ l.length := by have := digK_le 16 (l.drop 2); simp at this; omega
        clear C12 H2 hc1 hc2 h0 hx2 hy2
        generalize digK 16 (l.drop 2) = kk at *
        generalize dgv 99 (iv (l.getD 2 0)) = d at *
        generalize iv (l.getD 1 0) = x at *
        generalize iv (l.getD 2 0) = y at *
        have h3' : (2 : Int) < (l.length : Int) := by omega
        have h5 : ¬ cap = 2 := by omega
        rcases h4 with rfl | rfl
        all_goals
          by_cases h7 : d < 16
          · have E := Lib.hid (E1.out h7)
            go_enter Try.func15, Try.ntmps15
            go_wp2_with fail
            refine CV.out.mono ?_; rintro e w' ⟨rfl, rfl⟩
            go_wp2_with fail
            refine C16.out.mono ?_; rintro e w' ⟨rfl, rfl⟩
            go_wp2_with fail
            go_ret3
            rw [E.out]; exact ⟨rfl, rfl⟩
          · have E := Lib.hid (E2.out h7)
            go_enter Try.func15, Try.ntmps15
            go_wp2_with fail
            refine CV.out.mono ?_; rintro e w' ⟨rfl, rfl⟩
            go_wp2_with fail
            refine C8.out.mono ?_; rintro e w' ⟨rfl, rfl⟩
            go_wp2_with fail
            go_ret3
            rw [E.out]; exact ⟨rfl, rfl⟩
      · have E := Lib.hid (show rcst l = d3 8 l by
          unfold rcst; rw [if_neg (fun k => h3 ⟨k.1, k.2.2.1⟩), if_pos ⟨hlen, H2.out⟩])
        clear C12 H2 h0 hc2 hx2 hy2
        generalize iv (l.getD 1 0) = x at *
        by_cases h4 : 2 < l.length
        · have hc1' := hc1 (by omega)
          have h5 : (x == 120) = false := by simp; exact fun h => h3 ⟨h4, .inl h⟩
          have h6 : (x == 88) = false := by simp; exact fun h => h3 ⟨h4, .inr h⟩
          have h3' : (2 : Int) < (l.length : Int) := by omega
          clear h3
          go_enter Try.func15, Try.ntmps15
          go_wp2_with fail
          refine C8.out.mono ?_; rintro e w' ⟨rfl, rfl⟩
          go_wp2_with fail
          go_ret3
          rw [E.out]; exact ⟨rfl, rfl⟩
        · clear h3
          have h3' : ¬ (2 : Int) < (l.length : Int) := by omega
          go_enter Try.func15, Try.ntmps15
          go_wp2_with fail
          refine C8.out.mono ?_; rintro e w' ⟨rfl, rfl⟩
          go_wp2_with fail
          go_ret3
          rw [E.out]; exact ⟨rfl, rfl⟩
    · have E := Lib.hid (show rcst l = d3 10 l by
        unfold rcst; rw [if_neg (fun k => h2 k.2.1), if_neg (fun k => h2 k.2)])
      have C := Lib.hid (C12.out 10)
      clear C12 hc1 hc2 h0 hx1 hy1 hx2 hy2
      generalize iv (l.getD 0 0) = x at *
      have h2' : (x == 48) = false := by simpa using h2
      by_cases h4 : 2 < l.length
      · have h3' : (2 : Int) < (l.length : Int) := by omega
        go_enter Try.func15, Try.ntmps15
        go_wp2_with fail
        refine C.out.mono ?_; rintro e w' ⟨rfl, rfl⟩
        go_wp2_with fail
        go_ret3
        rw [E.out]; exact ⟨rfl, rfl⟩
      · have h3' : ¬ (2 : Int) < (l.length : Int) := by omega
        go_enter Try.func15, Try.ntmps15
        go_wp2_with fail
        refine C.out.mono ?_; rintro e w' ⟨rfl, rfl⟩
        go_wp2_with fail
        go_ret3
        rw [E.out]; exact ⟨rfl, rfl⟩
end Go.Proofs.Ytcmeijeddjckjaa
