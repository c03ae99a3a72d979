/-
  The document's answer: the bytes of a class. Conditions: those that each theorem names. Printed by gen_rclass.py.
-/
import Derived.Test.YtafmhhhboihdfaaDoorRClassPre
namespace Go.Proofs.YtafmhhhboihdfaaDoor
open Go.RowKit
set_option linter.unusedVariables false
attribute [local go_sem ↓] Go.wp_at_zero Go.wp_at_succ
set_option maxRecDepth 100000 in
set_option maxHeartbeats 40000000 in
theorem rclass_any (s : ByteArray) (w : World) :
    Calls Tryd.prog 65 #[.string s] w fun e w' => e = .returned (.tuple #[setV ((classS (bl s)).getD 0), .bool (classS (bl s)).isSome]) ∧ Below w.heap.size w w' := by
  have HC_alpha := Lib.hid (fun (h : (s.toList == [97, 108, 112, 104, 97]) = true) => (show classS (bl s) = some (rangeS 97 122 ||| rangeS 65 90) by rw [← toList_bl s, show s.toList = [97, 108, 112, 104, 97] by simpa using h]; exact rset_alpha))
  have HC_digit := Lib.hid (fun (h : (s.toList == [100, 105, 103, 105, 116]) = true) => (show classS (bl s) = some (rangeS 48 57) by rw [← toList_bl s, show s.toList = [100, 105, 103, 105, 116] by simpa using h]; exact rset_digit))
  have HC_alnum := Lib.hid (fun (h : (s.toList == [97, 108, 110, 117, 109]) = true) => (show classS (bl s) = some (rangeS 97 122 ||| rangeS 65 90 ||| rangeS 48 57) by rw [← toList_bl s, show s.toList = [97, 108, 110, 117, 109] by simpa using h]; exact rset_alnum))
  have HC_upper := Lib.hid (fun (h : (s.toList == [117, 112, 112, 101, 114]) = true) => (show classS (bl s) = some (rangeS 65 90) by rw [← toList_bl s, show s.toList = [117, 112, 112, 101, 114] by simpa using h]; exact rset_upper))
  have HC_lower := Lib.hid (fun (h : (s.toList == [108, 111, 119, 101, 114]) = true) => (show classS (bl s) = some (rangeS 97 122) by rw [← toList_bl s, show s.toList = [108, 111, 119, 101, 114] by simpa using h]; exact rset_lower))
  have HC_space := Lib.hid (fun (h : (s.toList == [115, 112, 97, 99, 101]) = true) => (show classS (bl s) = some (rangeS 9 13 ||| rangeS 32 32) by rw [← toList_bl s, show s.toList = [115, 112, 97, 99, 101] by simpa using h]; exact rset_space))
  have HC_blank := Lib.hid (fun (h : (s.toList == [98, 108, 97, 110, 107]) = true) => (show classS (bl s) = some (rangeS 9 9 ||| rangeS 32 32) by rw [← toList_bl s, show s.toList = [98, 108, 97, 110, 107] by simpa using h]; exact rset_blank))
  have HC_print := Lib.hid (fun (h : (s.toList == [112, 114, 105, 110, 116]) = true) => (show classS (bl s) = some (rangeS 33 126 ||| rangeS 32 32) by rw [← toList_bl s, show s.toList = [112, 114, 105, 110, 116] by simpa using h]; exact rset_print))
  have HC_graph := Lib.hid (fun (h : (s.toList == [103, 114, 97, 112, 104]) = true) => (show classS (bl s) = some (rangeS 33 126) by rw [← toList_bl s, show s.toList = [103, 114, 97, 112, 104] by simpa using h]; exact rset_graph))
  have HC_punct := Lib.hid (fun (h : (s.toList == [112, 117, 110, 99, 116]) = true) => (show classS (bl s) = some (~~~ (~~~ (rangeS 33 126) ||| (rangeS 97 122 ||| rangeS 65 90 ||| rangeS 48 57))) by rw [← toList_bl s, show s.toList = [112, 117, 110, 99, 116] by simpa using h]; exact rset_punct))
  have HC_cntrl := Lib.hid (fun (h : (s.toList == [99, 110, 116, 114, 108]) = true) => (show classS (bl s) = some (rangeS 0 31 ||| rangeS 127 127) by rw [← toList_bl s, show s.toList = [99, 110, 116, 114, 108] by simpa using h]; exact rset_cntrl))
  have HC_xdigit := Lib.hid (fun (h : (s.toList == [120, 100, 105, 103, 105, 116]) = true) => (show classS (bl s) = some (rangeS 48 57 ||| (rangeS 97 102 ||| rangeS 65 70)) by rw [← toList_bl s, show s.toList = [120, 100, 105, 103, 105, 116] by simpa using h]; exact rset_xdigit))
  have HNO := Lib.hid (fun (h0 : (s.toList == [97, 108, 112, 104, 97]) = false) (h1 : (s.toList == [100, 105, 103, 105, 116]) = false) (h2 : (s.toList == [97, 108, 110, 117, 109]) = false) (h3 : (s.toList == [117, 112, 112, 101, 114]) = false) (h4 : (s.toList == [108, 111, 119, 101, 114]) = false) (h5 : (s.toList == [115, 112, 97, 99, 101]) = false) (h6 : (s.toList == [98, 108, 97, 110, 107]) = false) (h7 : (s.toList == [112, 114, 105, 110, 116]) = false) (h8 : (s.toList == [103, 114, 97, 112, 104]) = false) (h9 : (s.toList == [112, 117, 110, 99, 116]) = false) (h10 : (s.toList == [99, 110, 116, 114, 108]) = false) (h11 : (s.toList == [120, 100, 105, 103, 105, 116]) = false) => rclass_none (bl s) (toList_bl s ▸ h0) (toList_bl s ▸ h1) (toList_bl s ▸ h2) (toList_bl s ▸ h3) (toList_bl s ▸ h4) (toList_bl s ▸ h5) (toList_bl s ▸ h6) (toList_bl s ▸ h7) (toList_bl s ▸ h8) (toList_bl s ▸ h9) (toList_bl s ▸ h10) (toList_bl s ▸ h11))
  have HR := Lib.hid (fun lo hi w h0 h1 => rrange_any lo hi w h0 h1)
  have HO := Lib.hid (fun S T w => ror_any S T w)
  have HN := Lib.hid (fun S w => rnot_any S w)
  have HTL := Lib.hid (toList_bl s)
  have HZ := Lib.hid (setat_alloc w)
  have HB0 := Lib.hid (show Below w.heap.size w (w.alloc (.cells #[.int .u64 0, .int .u64 0, .int .u64 0, .int .u64 0] 68)) from (Below.refl _ _).alloc (Nat.le_refl _) _)
  go_enter Tryd.func65, Tryd.ntmps65
  go_wp2_with fail
  generalize w.alloc (.cells #[.int .u64 0, .int .u64 0, .int .u64 0, .int .u64 0] 68) = W0 at *
  refine (HR.out 97 122 _ (by omega) (by omega)).mono ?_; rintro e w1 ⟨rfl, b1⟩
  have HZ1 := Lib.hid (HZ.out.below b1 HZ.out.lt)
  have HB1 := Lib.hid (HB0.out.trans (b1.mono HB0.out.size))
  clear b1 HZ HB0
  generalize rangeS 97 122 = lo at *
  go_wp2_with fail
  refine (HR.out 65 90 _ (by omega) (by omega)).mono ?_; rintro e w2 ⟨rfl, b2⟩
  have HZ2 := Lib.hid (HZ1.out.below b2 HZ1.out.lt)
  have HB2 := Lib.hid (HB1.out.trans (b2.mono HB1.out.size))
  clear b2 HZ1 HB1
  generalize rangeS 65 90 = up at *
  go_wp2_with fail
  refine (HR.out 48 57 _ (by omega) (by omega)).mono ?_; rintro e w3 ⟨rfl, b3⟩
  have HZ3 := Lib.hid (HZ2.out.below b3 HZ2.out.lt)
  have HB3 := Lib.hid (HB2.out.trans (b3.mono HB2.out.size))
  clear b3 HZ2 HB2
  generalize rangeS 48 57 = di at *
  go_wp2_with fail
  refine (HR.out 33 126 _ (by omega) (by omega)).mono ?_; rintro e w4 ⟨rfl, b4⟩
  have HZ4 := HZ3.out.below b4 HZ3.out.lt
  have HB4 := HB3.out.trans (b4.mono HB3.out.size)
  clear b4 HZ3 HB3
  generalize rangeS 33 126 = gr at *
  have H5 := Lib.hid (alloc_four lo up di gr HZ4 HB4)
  clear HZ4 HB4
  unfold setV wv
  go_upto_block 0 with fail
  generalize ((((w4.alloc (.cells #[.int .u64 (wd lo 0), .int .u64 (wd lo 1), .int .u64 (wd lo 2), .int .u64 (wd lo 3)] 68)).alloc (.cells #[.int .u64 (wd up 0), .int .u64 (wd up 1), .int .u64 (wd up 2), .int .u64 (wd up 3)] 68)).alloc (.cells #[.int .u64 (wd di 0), .int .u64 (wd di 1), .int .u64 (wd di 2), .int .u64 (wd di 3)] 68)).alloc (.cells #[.int .u64 (wd gr 0), .int .u64 (wd gr 1), .int .u64 (wd gr 2), .int .u64 (wd gr 3)] 68)) = W5 at *
  generalize w4.heap.size = B at *
  obtain ⟨al, hal⟩ : ∃ al, lo ||| up = al := ⟨_, rfl⟩
  obtain ⟨an, han⟩ : ∃ an, al ||| di = an := ⟨_, rfl⟩
  have HO1 := Lib.hid (fun w => HO.out lo up w)
  have HO2 := Lib.hid (fun w => HO.out al di w)
  rw [hal] at HO1
  rw [han] at HO2
  have HAL := Lib.hid hal
  have HAN := Lib.hid han
  clear hal han
  unfold setV wv at HO1 HO2
  go_cut [8] from 8 to 18 (fun p8 wx => ∃ G, p8 = .pointer (some ⟨G, 0, none⟩) ∧ RcAt w wx B lo up di gr ∧ SetAt wx G an)
  case first =>
    have H5d := Lib.hid H5.out.drew
    have HBG := Lib.hid H5.out.g.lt
    obtain ⟨l0, l1, l2, l3, u0, u1, u2, u3, d0, d1, d2, d3, n1, n2, n3⟩ := H5d.out.s12
    have H5a := Lib.hid (H5.out.alloc (.cells #[.int .u64 0, .int .u64 0, .int .u64 0, .int .u64 0] 68)).drew
    obtain ⟨l0', l1', l2', l3', u0', u1', u2', u3', d0', d1', d2', d3', -⟩ := H5a.out.s12
    have HVa := Lib.hid (show SetAt (W5.alloc (.cells #[.int .u64 0, .int .u64 0, .int .u64 0, .int .u64 0] 68)).drew W5.heap.size 0 from setat_alloc W5)
    go_region_law (first
      | (go_simp; go_at_call_of 55 (Value.agg #[.int .u64 (wd al 0), .int .u64 (wd al 1), .int .u64 (wd al 2), .int .u64 (wd al 3)]); refine (HO2.out _).mono ?_; rintro e w6 ⟨rfl, b6⟩; (first | (have H7 := Lib.hid (show RcAt w w6 B lo up di gr by with_reducible exact (H6.out.alloc (.cells #[.int .u64 0, .int .u64 0, .int .u64 0, .int .u64 0] 68)).below b6); have HV6 := Lib.hid (show SetAt w6 w5.heap.size 0 from (setat_alloc w5).below b6 (setat_alloc w5).lt); have HBG := Lib.hid H6.out.g.lt; obtain ⟨v0, v1, v2, v3, vf0, vf1, vf2, vf3⟩ := HV6.out.cells) | (have H7 := Lib.hid (show RcAt w w6 B lo up di gr by with_reducible exact H6.out.below b6); (first | (have HV6 := Lib.hid (HV5.out.below b6 HV5.out.lt); obtain ⟨v0, v1, v2, v3, vf0, vf1, vf2, vf3⟩ := HV6.out.cells) | skip))); clear b6; obtain ⟨l0, l1, l2, l3, u0, u1, u2, u3, d0, d1, d2, d3, n1, n2, n3⟩ := H7.out.s12)
      | (go_simp; go_at_call_of 55 (Value.agg #[.int .u64 (wd lo 0), .int .u64 (wd lo 1), .int .u64 (wd lo 2), .int .u64 (wd lo 3)]); refine (HO1.out _).mono ?_; rintro e w5 ⟨rfl, b5⟩; (first | (have H6 := Lib.hid (show RcAt w w5 B lo up di gr by with_reducible exact H5a.out.below b5); have HV5 := Lib.hid (show SetAt w5 W5.heap.size 0 from HVa.out.below b5 HVa.out.lt); obtain ⟨v0, v1, v2, v3, vf0, vf1, vf2, vf3⟩ := HV5.out.cells) | (have H6 := Lib.hid (show RcAt w w5 B lo up di gr by with_reducible exact H5d.out.below b5))); clear b5; obtain ⟨l0, l1, l2, l3, u0, u1, u2, u3, d0, d1, d2, d3, n1, n2, n3⟩ := H6.out.s12))
    all_goals
      go_wp2_with fail
      go_meet
      case rel => first | (have hp := H7.out.put HBG.out an; have ha := put4_at an HV6.out; exact ⟨_, rfl, hp, ha⟩) | exact ⟨_, rfl, H7.out.alloc _, heap_alloc_new _ _⟩
  case rest =>
    obtain ⟨G, rfl, hR, hG⟩ := hcut
    have HR5 := Lib.hid (RcG.mk hR hG)
    clear hR hG
    by_cases h : (s.toList == [97, 108, 112, 104, 97]) = true
    · rw [HAL.out] at HC_alpha
      obtain ⟨q0, q1, q2, q3, q4, q5, q6, q7, q8, q9, q10, q11, q12, q13, q14, q15, q16, q17, q18, q19, q20, q21, q22, q23, q24, q25, q26, q27, q28⟩ := HR5.out.s28
      go_wp2_with fail
      refine (HO1.out _).mono ?_; rintro e w7 ⟨rfl, b7⟩
      have H7 := Lib.hid (HR5.out.below b7)
      clear b7
      clear q0 q1 q2 q3 q4 q5 q6 q7 q8 q9 q10 q11 q12 q13 q14 q15 q16 q17 q18 q19 q20 q21 q22 q23 q24 q25 q26 q27 q28
      obtain ⟨q0, q1, q2, q3, q4, q5, q6, q7, q8, q9, q10, q11, q12, q13, q14, q15, q16, q17, q18, q19, q20, q21, q22, q23, q24, q25, q26, q27, q28⟩ := H7.out.s28
      go_wp2_with fail
      have HY := Lib.hid (put4_at al H7.out.r.z)
      have HGG := Lib.hid (put4_grown w7 w.heap.size al)
      change bodyPost _ _ _ _ _ (put4 w7 w.heap.size al)
      generalize put4 w7 w.heap.size al = W9 at *
      obtain ⟨p0, p1, p2, p3, -⟩ := HY.out.cells
      (try simp only [Exit.inBlock, Exit.then])
      refine bodyPost_ret (v := .tuple #[setV al, .bool true]) (by simp [results, Tryd.results65, go_sem, p0, p1, p2, p3, setV, wv]) rfl ?_
      rw [show classS (bl s) = some al from HC_alpha.out h]
      exact ⟨rfl, H7.out.r.b.grown HGG.out H7.out.r.b.size (fun r hr => by have := Option.some.inj hr; omega)⟩
    have h0 : (s.toList == [97, 108, 112, 104, 97]) = false := by simpa using h
    clear h
    by_cases h : (s.toList == [100, 105, 103, 105, 116]) = true
    · obtain ⟨q0, q1, q2, q3, q4, q5, q6, q7, q8, q9, q10, q11, q12, q13, q14, q15, q16, q17, q18, q19, q20, q21, q22, q23, q24, q25, q26, q27, q28⟩ := HR5.out.s28
      go_wp2_with fail
      have HY := Lib.hid (put4_at di HR5.out.r.z)
      have HGG := Lib.hid (put4_grown wc w.heap.size di)
      change bodyPost _ _ _ _ _ (put4 wc w.heap.size di)
      generalize put4 wc w.heap.size di = W9 at *
      obtain ⟨p0, p1, p2, p3, -⟩ := HY.out.cells
      (try simp only [Exit.inBlock, Exit.then])
      refine bodyPost_ret (v := .tuple #[setV di, .bool true]) (by simp [results, Tryd.results65, go_sem, p0, p1, p2, p3, setV, wv]) rfl ?_
      rw [show classS (bl s) = some di from HC_digit.out h]
      exact ⟨rfl, HR5.out.r.b.grown HGG.out HR5.out.r.b.size (fun r hr => by have := Option.some.inj hr; omega)⟩
    have h1 : (s.toList == [100, 105, 103, 105, 116]) = false := by simpa using h
    clear h
    by_cases h : (s.toList == [97, 108, 110, 117, 109]) = true
    · rw [HAL.out, HAN.out] at HC_alnum
      obtain ⟨q0, q1, q2, q3, q4, q5, q6, q7, q8, q9, q10, q11, q12, q13, q14, q15, q16, q17, q18, q19, q20, q21, q22, q23, q24, q25, q26, q27, q28⟩ := HR5.out.s28
      go_wp2_with fail
      have HY := Lib.hid (put4_at an HR5.out.r.z)
      have HGG := Lib.hid (put4_grown wc w.heap.size an)
      change bodyPost _ _ _ _ _ (put4 wc w.heap.size an)
      generalize put4 wc w.heap.size an = W9 at *
      obtain ⟨p0, p1, p2, p3, -⟩ := HY.out.cells
      (try simp only [Exit.inBlock, Exit.then])
      refine bodyPost_ret (v := .tuple #[setV an, .bool true]) (by simp [results, Tryd.results65, go_sem, p0, p1, p2, p3, setV, wv]) rfl ?_
      rw [show classS (bl s) = some an from HC_alnum.out h]
      exact ⟨rfl, HR5.out.r.b.grown HGG.out HR5.out.r.b.size (fun r hr => by have := Option.some.inj hr; omega)⟩
    have h2 : (s.toList == [97, 108, 110, 117, 109]) = false := by simpa using h
    clear h
    by_cases h : (s.toList == [117, 112, 112, 101, 114]) = true
    · obtain ⟨q0, q1, q2, q3, q4, q5, q6, q7, q8, q9, q10, q11, q12, q13, q14, q15, q16, q17, q18, q19, q20, q21, q22, q23, q24, q25, q26, q27, q28⟩ := HR5.out.s28
      go_wp2_with fail
      have HY := Lib.hid (put4_at up HR5.out.r.z)
      have HGG := Lib.hid (put4_grown wc w.heap.size up)
      change bodyPost _ _ _ _ _ (put4 wc w.heap.size up)
      generalize put4 wc w.heap.size up = W9 at *
      obtain ⟨p0, p1, p2, p3, -⟩ := HY.out.cells
      (try simp only [Exit.inBlock, Exit.then])
      refine bodyPost_ret (v := .tuple #[setV up, .bool true]) (by simp [results, Tryd.results65, go_sem, p0, p1, p2, p3, setV, wv]) rfl ?_
      rw [show classS (bl s) = some up from HC_upper.out h]
      exact ⟨rfl, HR5.out.r.b.grown HGG.out HR5.out.r.b.size (fun r hr => by have := Option.some.inj hr; omega)⟩
    have h3 : (s.toList == [117, 112, 112, 101, 114]) = false := by simpa using h
    clear h
    by_cases h : (s.toList == [108, 111, 119, 101, 114]) = true
    · obtain ⟨q0, q1, q2, q3, q4, q5, q6, q7, q8, q9, q10, q11, q12, q13, q14, q15, q16, q17, q18, q19, q20, q21, q22, q23, q24, q25, q26, q27, q28⟩ := HR5.out.s28
      go_wp2_with fail
      have HY := Lib.hid (put4_at lo HR5.out.r.z)
      have HGG := Lib.hid (put4_grown wc w.heap.size lo)
      change bodyPost _ _ _ _ _ (put4 wc w.heap.size lo)
      generalize put4 wc w.heap.size lo = W9 at *
      obtain ⟨p0, p1, p2, p3, -⟩ := HY.out.cells
      (try simp only [Exit.inBlock, Exit.then])
      refine bodyPost_ret (v := .tuple #[setV lo, .bool true]) (by simp [results, Tryd.results65, go_sem, p0, p1, p2, p3, setV, wv]) rfl ?_
      rw [show classS (bl s) = some lo from HC_lower.out h]
      exact ⟨rfl, HR5.out.r.b.grown HGG.out HR5.out.r.b.size (fun r hr => by have := Option.some.inj hr; omega)⟩
    have h4 : (s.toList == [108, 111, 119, 101, 114]) = false := by simpa using h
    clear h
    by_cases h : (s.toList == [115, 112, 97, 99, 101]) = true
    · obtain ⟨x1, hx1⟩ : ∃ x : BitVec 256, rangeS 9 13 = x := ⟨_, rfl⟩
      rw [hx1] at HC_space
      have Kx1 := Lib.hid (fun w => HR.out 9 13 w (by omega) (by omega))
      rw [hx1] at Kx1
      clear hx1
      unfold setV wv at Kx1
      obtain ⟨x2, hx2⟩ : ∃ x : BitVec 256, rangeS 32 32 = x := ⟨_, rfl⟩
      rw [hx2] at HC_space
      have Kx2 := Lib.hid (fun w => HR.out 32 32 w (by omega) (by omega))
      rw [hx2] at Kx2
      clear hx2
      unfold setV wv at Kx2
      obtain ⟨x3, hx3⟩ : ∃ x : BitVec 256, x1 ||| x2 = x := ⟨_, rfl⟩
      rw [hx3] at HC_space
      have Kx3 := Lib.hid (fun w => HO.out x1 x2 w)
      rw [hx3] at Kx3
      clear hx3
      unfold setV wv at Kx3
      go_wp2_with fail
      refine (Kx1.out _).mono ?_; rintro e w6 ⟨rfl, b6⟩
      have H6 := Lib.hid (HR5.out.below b6)
      clear b6
      go_wp2_with fail
      refine (Kx2.out _).mono ?_; rintro e w7 ⟨rfl, b7⟩
      have H7 := Lib.hid (H6.out.below b7)
      clear b7
      go_wp2_with fail
      refine (Kx3.out _).mono ?_; rintro e w8 ⟨rfl, b8⟩
      have H8 := Lib.hid (H7.out.below b8)
      clear b8
      obtain ⟨q0, q1, q2, q3, q4, q5, q6, q7, q8, q9, q10, q11, q12, q13, q14, q15, q16, q17, q18, q19, q20, q21, q22, q23, q24, q25, q26, q27, q28⟩ := H8.out.s28
      go_wp2_with fail
      have HY := Lib.hid (put4_at x3 H8.out.r.z)
      have HGG := Lib.hid (put4_grown w8 w.heap.size x3)
      change bodyPost _ _ _ _ _ (put4 w8 w.heap.size x3)
      generalize put4 w8 w.heap.size x3 = W9 at *
      obtain ⟨p0, p1, p2, p3, -⟩ := HY.out.cells
      (try simp only [Exit.inBlock, Exit.then])
      refine bodyPost_ret (v := .tuple #[setV x3, .bool true]) (by simp [results, Tryd.results65, go_sem, p0, p1, p2, p3, setV, wv]) rfl ?_
      rw [show classS (bl s) = some x3 from HC_space.out h]
      exact ⟨rfl, H8.out.r.b.grown HGG.out H8.out.r.b.size (fun r hr => by have := Option.some.inj hr; omega)⟩
    have h5 : (s.toList == [115, 112, 97, 99, 101]) = false := by simpa using h
    clear h
    by_cases h : (s.toList == [98, 108, 97, 110, 107]) = true
    · obtain ⟨x1, hx1⟩ : ∃ x : BitVec 256, rangeS 9 9 = x := ⟨_, rfl⟩
      rw [hx1] at HC_blank
      have Kx1 := Lib.hid (fun w => HR.out 9 9 w (by omega) (by omega))
      rw [hx1] at Kx1
      clear hx1
      unfold setV wv at Kx1
      obtain ⟨x2, hx2⟩ : ∃ x : BitVec 256, rangeS 32 32 = x := ⟨_, rfl⟩
      rw [hx2] at HC_blank
      have Kx2 := Lib.hid (fun w => HR.out 32 32 w (by omega) (by omega))
      rw [hx2] at Kx2
      clear hx2
      unfold setV wv at Kx2
      obtain ⟨x3, hx3⟩ : ∃ x : BitVec 256, x1 ||| x2 = x := ⟨_, rfl⟩
      rw [hx3] at HC_blank
      have Kx3 := Lib.hid (fun w => HO.out x1 x2 w)
      rw [hx3] at Kx3
      clear hx3
      unfold setV wv at Kx3
      go_wp2_with fail
      refine (Kx1.out _).mono ?_; rintro e w6 ⟨rfl, b6⟩
      have H6 := Lib.hid (HR5.out.below b6)
      clear b6
      go_wp2_with fail
      refine (Kx2.out _).mono ?_; rintro e w7 ⟨rfl, b7⟩
      have H7 := Lib.hid (H6.out.below b7)
      clear b7
      go_wp2_with fail
      refine (Kx3.out _).mono ?_; rintro e w8 ⟨rfl, b8⟩
      have H8 := Lib.hid (H7.out.below b8)
      clear b8
      obtain ⟨q0, q1, q2, q3, q4, q5, q6, q7, q8, q9, q10, q11, q12, q13, q14, q15, q16, q17, q18, q19, q20, q21, q22, q23, q24, q25, q26, q27, q28⟩ := H8.out.s28
      go_wp2_with fail
      have HY := Lib.hid (put4_at x3 H8.out.r.z)
      have HGG := Lib.hid (put4_grown w8 w.heap.size x3)
      change bodyPost _ _ _ _ _ (put4 w8 w.heap.size x3)
      generalize put4 w8 w.heap.size x3 = W9 at *
      obtain ⟨p0, p1, p2, p3, -⟩ := HY.out.cells
      (try simp only [Exit.inBlock, Exit.then])
      refine bodyPost_ret (v := .tuple #[setV x3, .bool true]) (by simp [results, Tryd.results65, go_sem, p0, p1, p2, p3, setV, wv]) rfl ?_
      rw [show classS (bl s) = some x3 from HC_blank.out h]
      exact ⟨rfl, H8.out.r.b.grown HGG.out H8.out.r.b.size (fun r hr => by have := Option.some.inj hr; omega)⟩
    have h6 : (s.toList == [98, 108, 97, 110, 107]) = false := by simpa using h
    clear h
    by_cases h : (s.toList == [112, 114, 105, 110, 116]) = true
    · obtain ⟨x1, hx1⟩ : ∃ x : BitVec 256, rangeS 32 32 = x := ⟨_, rfl⟩
      rw [hx1] at HC_print
      have Kx1 := Lib.hid (fun w => HR.out 32 32 w (by omega) (by omega))
      rw [hx1] at Kx1
      clear hx1
      unfold setV wv at Kx1
      obtain ⟨x2, hx2⟩ : ∃ x : BitVec 256, gr ||| x1 = x := ⟨_, rfl⟩
      rw [hx2] at HC_print
      have Kx2 := Lib.hid (fun w => HO.out gr x1 w)
      rw [hx2] at Kx2
      clear hx2
      unfold setV wv at Kx2
      go_wp2_with fail
      have H5d := Lib.hid HR5.out.drew
      obtain ⟨g0, g1, g2, g3, -⟩ := H5d.out.r.g.cells
      go_region_law (first
          | (go_simp; go_at_call_of 55 (Value.agg #[.int .u64 (wd gr 0), .int .u64 (wd gr 1), .int .u64 (wd gr 2), .int .u64 (wd gr 3)]); refine (Kx2.out _).mono ?_; rintro e w7 ⟨rfl, b7⟩; have H7 := Lib.hid (H6.out.below b7); clear b7; obtain ⟨zz0, zz1, zz2, zz3, zf0, zf1, zf2, zf3⟩ := H7.out.r.z.cells; skip)
          | (go_simp; go_at_call_of 56 (Value.int IntKind.u8 32); refine (Kx1.out _).mono ?_; rintro e w6 ⟨rfl, b6⟩; have H6 := Lib.hid (H5d.out.below b6); clear b6; obtain ⟨g0, g1, g2, g3, -⟩ := H6.out.r.g.cells; skip))
      all_goals
        go_wp2_with fail
        have HY := Lib.hid (put4_at x2 H7.out.r.z)
        have HGG := Lib.hid (put4_grown w7 w.heap.size x2)
        change bodyPost _ _ _ _ _ (put4 w7 w.heap.size x2)
        generalize put4 w7 w.heap.size x2 = W9 at *
        obtain ⟨p0, p1, p2, p3, -⟩ := HY.out.cells
        (try simp only [Exit.inBlock, Exit.then])
        refine bodyPost_ret (v := .tuple #[setV x2, .bool true]) (by simp [results, Tryd.results65, go_sem, p0, p1, p2, p3, setV, wv]) rfl ?_
        rw [show classS (bl s) = some x2 from HC_print.out h]
        exact ⟨rfl, H7.out.r.b.grown HGG.out H7.out.r.b.size (fun r hr => by have := Option.some.inj hr; omega)⟩
    have h7 : (s.toList == [112, 114, 105, 110, 116]) = false := by simpa using h
    clear h
    by_cases h : (s.toList == [103, 114, 97, 112, 104]) = true
    · obtain ⟨q0, q1, q2, q3, q4, q5, q6, q7, q8, q9, q10, q11, q12, q13, q14, q15, q16, q17, q18, q19, q20, q21, q22, q23, q24, q25, q26, q27, q28⟩ := HR5.out.s28
      go_wp2_with fail
      have HY := Lib.hid (put4_at gr HR5.out.r.z)
      have HGG := Lib.hid (put4_grown wc w.heap.size gr)
      change bodyPost _ _ _ _ _ (put4 wc w.heap.size gr)
      generalize put4 wc w.heap.size gr = W9 at *
      obtain ⟨p0, p1, p2, p3, -⟩ := HY.out.cells
      (try simp only [Exit.inBlock, Exit.then])
      refine bodyPost_ret (v := .tuple #[setV gr, .bool true]) (by simp [results, Tryd.results65, go_sem, p0, p1, p2, p3, setV, wv]) rfl ?_
      rw [show classS (bl s) = some gr from HC_graph.out h]
      exact ⟨rfl, HR5.out.r.b.grown HGG.out HR5.out.r.b.size (fun r hr => by have := Option.some.inj hr; omega)⟩
    have h8 : (s.toList == [103, 114, 97, 112, 104]) = false := by simpa using h
    clear h
    by_cases h : (s.toList == [112, 117, 110, 99, 116]) = true
    · rw [HAL.out, HAN.out] at HC_punct
      obtain ⟨x1, hx1⟩ : ∃ x : BitVec 256, ~~~ gr = x := ⟨_, rfl⟩
      rw [hx1] at HC_punct
      have Kx1 := Lib.hid (fun w => HN.out gr w)
      rw [hx1] at Kx1
      clear hx1
      unfold setV wv at Kx1
      obtain ⟨x2, hx2⟩ : ∃ x : BitVec 256, x1 ||| an = x := ⟨_, rfl⟩
      rw [hx2] at HC_punct
      have Kx2 := Lib.hid (fun w => HO.out x1 an w)
      rw [hx2] at Kx2
      clear hx2
      unfold setV wv at Kx2
      obtain ⟨x3, hx3⟩ : ∃ x : BitVec 256, ~~~ x2 = x := ⟨_, rfl⟩
      rw [hx3] at HC_punct
      have Kx3 := Lib.hid (fun w => HN.out x2 w)
      rw [hx3] at Kx3
      clear hx3
      unfold setV wv at Kx3
      go_wp2_with fail
      have H5d := Lib.hid HR5.out.drew
      obtain ⟨g0, g1, g2, g3, -⟩ := H5d.out.r.g.cells
      obtain ⟨a0, a1, a2, a3, -⟩ := H5d.out.a.cells
      go_region_law (first
          | (go_simp; go_at_call_of 53 (Value.agg #[.int .u64 (wd x2 0), .int .u64 (wd x2 1), .int .u64 (wd x2 2), .int .u64 (wd x2 3)]); refine (Kx3.out _).mono ?_; rintro e w8 ⟨rfl, b8⟩; have H8 := Lib.hid (H7.out.below b8); clear b8; obtain ⟨zz0, zz1, zz2, zz3, zf0, zf1, zf2, zf3⟩ := H8.out.r.z.cells; skip)
          | (go_simp; go_at_call_of 55 (Value.agg #[.int .u64 (wd x1 0), .int .u64 (wd x1 1), .int .u64 (wd x1 2), .int .u64 (wd x1 3)]); refine (Kx2.out _).mono ?_; rintro e w7 ⟨rfl, b7⟩; have H7 := Lib.hid (H6.out.below b7); clear b7; skip)
          | (go_simp; go_at_call_of 53 (Value.agg #[.int .u64 (wd gr 0), .int .u64 (wd gr 1), .int .u64 (wd gr 2), .int .u64 (wd gr 3)]); refine (Kx1.out _).mono ?_; rintro e w6 ⟨rfl, b6⟩; have H6 := Lib.hid (H5d.out.below b6); clear b6; obtain ⟨a0, a1, a2, a3, -⟩ := H6.out.a.cells; skip))
      all_goals
        go_wp2_with fail
        have HY := Lib.hid (put4_at x3 H8.out.r.z)
        have HGG := Lib.hid (put4_grown w8 w.heap.size x3)
        change bodyPost _ _ _ _ _ (put4 w8 w.heap.size x3)
        generalize put4 w8 w.heap.size x3 = W9 at *
        obtain ⟨p0, p1, p2, p3, -⟩ := HY.out.cells
        (try simp only [Exit.inBlock, Exit.then])
        refine bodyPost_ret (v := .tuple #[setV x3, .bool true]) (by simp [results, Tryd.results65, go_sem, p0, p1, p2, p3, setV, wv]) rfl ?_
        rw [show classS (bl s) = some x3 from HC_punct.out h]
        exact ⟨rfl, H8.out.r.b.grown HGG.out H8.out.r.b.size (fun r hr => by have := Option.some.inj hr; omega)⟩
    have h9 : (s.toList == [112, 117, 110, 99, 116]) = false := by simpa using h
    clear h
    by_cases h : (s.toList == [99, 110, 116, 114, 108]) = true
    · obtain ⟨x1, hx1⟩ : ∃ x : BitVec 256, rangeS 0 31 = x := ⟨_, rfl⟩
      rw [hx1] at HC_cntrl
      have Kx1 := Lib.hid (fun w => HR.out 0 31 w (by omega) (by omega))
      rw [hx1] at Kx1
      clear hx1
      unfold setV wv at Kx1
      obtain ⟨x2, hx2⟩ : ∃ x : BitVec 256, rangeS 127 127 = x := ⟨_, rfl⟩
      rw [hx2] at HC_cntrl
      have Kx2 := Lib.hid (fun w => HR.out 127 127 w (by omega) (by omega))
      rw [hx2] at Kx2
      clear hx2
      unfold setV wv at Kx2
      obtain ⟨x3, hx3⟩ : ∃ x : BitVec 256, x1 ||| x2 = x := ⟨_, rfl⟩
      rw [hx3] at HC_cntrl
      have Kx3 := Lib.hid (fun w => HO.out x1 x2 w)
      rw [hx3] at Kx3
      clear hx3
      unfold setV wv at Kx3
      go_wp2_with fail
      refine (Kx1.out _).mono ?_; rintro e w6 ⟨rfl, b6⟩
      have H6 := Lib.hid (HR5.out.below b6)
      clear b6
      go_wp2_with fail
      refine (Kx2.out _).mono ?_; rintro e w7 ⟨rfl, b7⟩
      have H7 := Lib.hid (H6.out.below b7)
      clear b7
      go_wp2_with fail
      refine (Kx3.out _).mono ?_; rintro e w8 ⟨rfl, b8⟩
      have H8 := Lib.hid (H7.out.below b8)
      clear b8
      obtain ⟨q0, q1, q2, q3, q4, q5, q6, q7, q8, q9, q10, q11, q12, q13, q14, q15, q16, q17, q18, q19, q20, q21, q22, q23, q24, q25, q26, q27, q28⟩ := H8.out.s28
      go_wp2_with fail
      have HY := Lib.hid (put4_at x3 H8.out.r.z)
      have HGG := Lib.hid (put4_grown w8 w.heap.size x3)
      change bodyPost _ _ _ _ _ (put4 w8 w.heap.size x3)
      generalize put4 w8 w.heap.size x3 = W9 at *
      obtain ⟨p0, p1, p2, p3, -⟩ := HY.out.cells
      (try simp only [Exit.inBlock, Exit.then])
      refine bodyPost_ret (v := .tuple #[setV x3, .bool true]) (by simp [results, Tryd.results65, go_sem, p0, p1, p2, p3, setV, wv]) rfl ?_
      rw [show classS (bl s) = some x3 from HC_cntrl.out h]
      exact ⟨rfl, H8.out.r.b.grown HGG.out H8.out.r.b.size (fun r hr => by have := Option.some.inj hr; omega)⟩
    have h10 : (s.toList == [99, 110, 116, 114, 108]) = false := by simpa using h
    clear h
    by_cases h : (s.toList == [120, 100, 105, 103, 105, 116]) = true
    · obtain ⟨x1, hx1⟩ : ∃ x : BitVec 256, rangeS 97 102 = x := ⟨_, rfl⟩
      rw [hx1] at HC_xdigit
      have Kx1 := Lib.hid (fun w => HR.out 97 102 w (by omega) (by omega))
      rw [hx1] at Kx1
      clear hx1
      unfold setV wv at Kx1
      obtain ⟨x2, hx2⟩ : ∃ x : BitVec 256, rangeS 65 70 = x := ⟨_, rfl⟩
      rw [hx2] at HC_xdigit
      have Kx2 := Lib.hid (fun w => HR.out 65 70 w (by omega) (by omega))
      rw [hx2] at Kx2
      clear hx2
      unfold setV wv at Kx2
      obtain ⟨x3, hx3⟩ : ∃ x : BitVec 256, x1 ||| x2 = x := ⟨_, rfl⟩
      rw [hx3] at HC_xdigit
      have Kx3 := Lib.hid (fun w => HO.out x1 x2 w)
      rw [hx3] at Kx3
      clear hx3
      unfold setV wv at Kx3
      obtain ⟨x4, hx4⟩ : ∃ x : BitVec 256, di ||| x3 = x := ⟨_, rfl⟩
      rw [hx4] at HC_xdigit
      have Kx4 := Lib.hid (fun w => HO.out di x3 w)
      rw [hx4] at Kx4
      clear hx4
      unfold setV wv at Kx4
      go_wp2_with fail
      have H5d := Lib.hid HR5.out.drew
      obtain ⟨d0, d1, d2, d3, -⟩ := H5d.out.r.d.cells
      go_region_law (first
          | (go_simp; go_at_call_of 55 (Value.agg #[.int .u64 (wd di 0), .int .u64 (wd di 1), .int .u64 (wd di 2), .int .u64 (wd di 3)]); refine (Kx4.out _).mono ?_; rintro e w9 ⟨rfl, b9⟩; have H9 := Lib.hid (H8.out.below b9); clear b9; obtain ⟨zz0, zz1, zz2, zz3, zf0, zf1, zf2, zf3⟩ := H9.out.r.z.cells; skip)
          | (go_simp; go_at_call_of 55 (Value.agg #[.int .u64 (wd x1 0), .int .u64 (wd x1 1), .int .u64 (wd x1 2), .int .u64 (wd x1 3)]); refine (Kx3.out _).mono ?_; rintro e w8 ⟨rfl, b8⟩; have H8 := Lib.hid (H7.out.below b8); clear b8; obtain ⟨d0, d1, d2, d3, -⟩ := H8.out.r.d.cells; skip)
          | (go_simp; go_at_call_of 56 (Value.int IntKind.u8 65); refine (Kx2.out _).mono ?_; rintro e w7 ⟨rfl, b7⟩; have H7 := Lib.hid (H6.out.below b7); clear b7; obtain ⟨d0, d1, d2, d3, -⟩ := H7.out.r.d.cells; skip)
          | (go_simp; go_at_call_of 56 (Value.int IntKind.u8 97); refine (Kx1.out _).mono ?_; rintro e w6 ⟨rfl, b6⟩; have H6 := Lib.hid (H5d.out.below b6); clear b6; obtain ⟨d0, d1, d2, d3, -⟩ := H6.out.r.d.cells; skip))
      all_goals
        go_wp2_with fail
        have HY := Lib.hid (put4_at x4 H9.out.r.z)
        have HGG := Lib.hid (put4_grown w9 w.heap.size x4)
        change bodyPost _ _ _ _ _ (put4 w9 w.heap.size x4)
        generalize put4 w9 w.heap.size x4 = W9 at *
        obtain ⟨p0, p1, p2, p3, -⟩ := HY.out.cells
        (try simp only [Exit.inBlock, Exit.then])
        refine bodyPost_ret (v := .tuple #[setV x4, .bool true]) (by simp [results, Tryd.results65, go_sem, p0, p1, p2, p3, setV, wv]) rfl ?_
        rw [show classS (bl s) = some x4 from HC_xdigit.out h]
        exact ⟨rfl, H9.out.r.b.grown HGG.out H9.out.r.b.size (fun r hr => by have := Option.some.inj hr; omega)⟩
    have h11 : (s.toList == [120, 100, 105, 103, 105, 116]) = false := by simpa using h
    clear h
    have HNO := Lib.hid (HNO.out h0 h1 h2 h3 h4 h5 h6 h7 h8 h9 h10 h11)
    obtain ⟨q0, q1, q2, q3, q4, q5, q6, q7, q8, q9, q10, q11, q12, q13, q14, q15, q16, q17, q18, q19, q20, q21, q22, q23, q24, q25, q26, q27, q28⟩ := HR5.out.s28
    go_wp2_with fail
    have HY := Lib.hid (put4_at 0 HR5.out.r.z)
    have HGG := Lib.hid (put4_grown wc w.heap.size 0)
    change bodyPost _ _ _ _ _ (put4 wc w.heap.size 0)
    generalize put4 wc w.heap.size 0 = W9 at *
    obtain ⟨p0, p1, p2, p3, -⟩ := HY.out.cells
    (try simp only [Exit.inBlock, Exit.then])
    refine bodyPost_ret (v := .tuple #[setV 0, .bool false]) (by simp [results, Tryd.results65, go_sem, p0, p1, p2, p3, setV, wv]) rfl ?_
    rw [show classS (bl s) = none from HNO.out]
    exact ⟨rfl, HR5.out.r.b.grown HGG.out HR5.out.r.b.size (fun r hr => by have := Option.some.inj hr; omega)⟩

end Go.Proofs.YtafmhhhboihdfaaDoor
