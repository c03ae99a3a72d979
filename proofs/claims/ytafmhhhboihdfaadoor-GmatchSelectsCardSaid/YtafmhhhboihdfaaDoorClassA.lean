/-
  Classes of bytes: set.Class at some names. Conditions: those that each theorem names. Printed by gen_class.py.
-/
import Derived.Test.YtafmhhhboihdfaaDoorClassPre
namespace Go.Proofs.YtafmhhhboihdfaaDoor
open Go.RowKit
set_option linter.unusedVariables false
attribute [local go_sem ↓] Go.wp_at_zero Go.wp_at_succ
set_option maxRecDepth 100000 in
set_option maxHeartbeats 4000000 in
theorem class_alnum (s : ByteArray) (w : World) (hs : s.size ≤ 9223372036854775807) (h : (s.toList == [97, 108, 110, 117, 109]) = true) :
    Calls Tryd.prog 89 #[.string s] w fun e w' => e = .returned (.tuple #[setV ((classS (bl s)).getD 0), .bool (classS (bl s)).isSome]) ∧ Below w.heap.size w w' := by
  have HTL := Lib.hid (toList_bl s)
  have HC_alnum := Lib.hid (show classS [97, 108, 110, 117, 109] = some (unionS [rangeS 48 57, rangeS 65 90, rangeS 97 122]) from rfl)
  have HR := Lib.hid (fun lo hi w h0 h1 => range_any lo hi w h0 h1)
  have HZ := Lib.hid (setat_alloc w)
  have HB0 := Lib.hid (show Below w.heap.size w (w.alloc (.cells #[.int .u64 0, .int .u64 0, .int .u64 0, .int .u64 0] 68)) from (Below.refl _ _).alloc (Nat.le_refl _) _)
  go_enter Tryd.func89, Tryd.ntmps89
  go_wp2_with fail
  generalize w.alloc (.cells #[.int .u64 0, .int .u64 0, .int .u64 0, .int .u64 0] 68) = W0 at *
  refine (HR.out 33 126 _ (by omega) (by omega)).mono ?_; rintro e w1 ⟨rfl, b1⟩
  have HZ1 := Lib.hid (HZ.out.below b1 HZ.out.lt)
  have HB1 := Lib.hid (HB0.out.trans (b1.mono HB0.out.size))
  clear b1 HZ HB0
  go_wp2_with fail
  refine (HR.out 48 57 _ (by omega) (by omega)).mono ?_; rintro e w2 ⟨rfl, b2⟩
  have HZ2 := Lib.hid (HZ1.out.below b2 HZ1.out.lt)
  have HB2 := Lib.hid (HB1.out.trans (b2.mono HB1.out.size))
  clear b2 HZ1 HB1
  have HA := Lib.hid (alloc_two w2 (rangeS 33 126) (rangeS 48 57))
  unfold setV wv
  generalize rangeS 33 126 = gr at *
  generalize rangeS 48 57 = di at *
  go_wp2_with fail
  have HAA := HA.out
  have HZ3 := Lib.hid (HZ2.out.below HAA.2.2.1 HZ2.out.lt)
  have HB3 := Lib.hid (HB2.out.trans (HAA.2.2.1.mono HB2.out.size))
  have HL3 := Lib.hid (show w.heap.size < w2.heap.size from HZ2.out.lt)
  have hw0 := HL3.out
  clear HZ2 HB2 HA
  generalize ((w2.alloc (.cells #[.int .u64 (wd gr 0), .int .u64 (wd gr 1), .int .u64 (wd gr 2), .int .u64 (wd gr 3)] 68)).alloc (.cells #[.int .u64 (wd di 0), .int .u64 (wd di 1), .int .u64 (wd di 2), .int .u64 (wd di 3)] 68)) = W3 at *
  generalize w2.heap.size = G at *
  have HA := Lib.hid HAA
  clear HAA
  refine (HR.out 65 90 _ (by omega) (by omega)).mono ?_; rintro e w3 ⟨rfl, b3⟩
  have HZ4 := Lib.hid (HZ3.out.below b3 HZ3.out.lt)
  have HG4 := Lib.hid (HA.out.1.below b3 HA.out.1.lt)
  have HD4 := Lib.hid (HA.out.2.1.below b3 HA.out.2.1.lt)
  have HB4 := Lib.hid (HB3.out.trans (b3.mono HB3.out.size))
  clear b3 HZ3 HB3 HA
  go_wp2_with fail
  refine (HR.out 97 122 _ (by omega) (by omega)).mono ?_; rintro e w4 ⟨rfl, b4⟩
  have HZ5 := Lib.hid (HZ4.out.below b4 HZ4.out.lt)
  have HG5 := Lib.hid (HG4.out.below b4 HG4.out.lt)
  have HD5 := Lib.hid (HD4.out.below b4 HD4.out.lt)
  have HB5 := Lib.hid (HB4.out.trans (b4.mono HB4.out.size))
  clear b4 HZ4 HB4 HG4 HD4
  have HA := Lib.hid (alloc_two w4 (rangeS 65 90) (rangeS 97 122))
  unfold setV wv
  generalize rangeS 65 90 = up at *
  generalize rangeS 97 122 = lo at *
  go_upto_block 0 with fail
  have HAA := HA.out
  have HZ6 := HZ5.out.below HAA.2.2.1 HZ5.out.lt
  have HG6 := HG5.out.below HAA.2.2.1 HG5.out.lt
  have HD6 := HD5.out.below HAA.2.2.1 HD5.out.lt
  have HB6 := HB5.out.trans (HAA.2.2.1.mono HB5.out.size)
  have HT := setat_alloc ((w4.alloc (.cells #[.int .u64 (wd up 0), .int .u64 (wd up 1), .int .u64 (wd up 2), .int .u64 (wd up 3)] 68)).alloc (.cells #[.int .u64 (wd lo 0), .int .u64 (wd lo 1), .int .u64 (wd lo 2), .int .u64 (wd lo 3)] 68))
  rw [HAA.2.2.2] at HT
  have HTB := fun row => alloc_grown ((w4.alloc (.cells #[.int .u64 (wd up 0), .int .u64 (wd up 1), .int .u64 (wd up 2), .int .u64 (wd up 3)] 68)).alloc (.cells #[.int .u64 (wd lo 0), .int .u64 (wd lo 1), .int .u64 (wd lo 2), .int .u64 (wd lo 3)] 68)) (.cells #[.int .u64 0, .int .u64 0, .int .u64 0, .int .u64 0] 68) row
  have q1 := HL3.out
  have q2 := HD5.out.lt
  have H7 := Lib.hid (show ClsAt w _ G (G + 1) w4.heap.size (w4.heap.size + 1) (w4.heap.size + 1 + 1) gr di up lo 0 from ⟨HZ6.kept (HTB none) (by simp), HG6.kept (HTB none) (by simp), HD6.kept (HTB none) (by simp), HAA.1.kept (HTB none) (by simp), HAA.2.1.kept (HTB none) (by simp), HT, by omega, by omega, by omega, by omega, by omega, HB6.alloc HB6.size _⟩)
  clear HAA HZ6 HG6 HD6 HB6 HT HTB HA HZ5 HG5 HD5 HB5 hw0 HL3 q1 q2
  generalize (((w4.alloc (.cells #[.int .u64 (wd up 0), .int .u64 (wd up 1), .int .u64 (wd up 2), .int .u64 (wd up 3)] 68)).alloc (.cells #[.int .u64 (wd lo 0), .int .u64 (wd lo 1), .int .u64 (wd lo 2), .int .u64 (wd lo 3)] 68)).alloc (.cells #[.int .u64 0, .int .u64 0, .int .u64 0, .int .u64 0] 68)) = W7 at *
  generalize w4.heap.size + 1 + 1 = V at *
  generalize w4.heap.size + 1 = L at *
  generalize w4.heap.size = U at *
  generalize G + 1 = D at *
  clear w1 w2 w3 w4 W3 W0
  have nG : ¬ G = V := fun e => by have := H7.out.ng; omega
  have nD : ¬ D = V := fun e => by have := H7.out.nd; omega
  have nU : ¬ U = V := fun e => by have := H7.out.nu; omega
  have nL : ¬ L = V := fun e => by have := H7.out.nl; omega
  go_cut [8] from 14 to 74 (fun p wx => p = .pointer (some ⟨V, 0, none⟩) ∧ ∃ S, ClsMet (bl s) S ∧ SetAt wx V S ∧ SetAt wx w.heap.size 0 ∧ Below w.heap.size w wx)
  case first =>
    obtain ⟨d0, d1, d2, d3, df0, df1, df2, df3⟩ := H7.out.d.cells
    obtain ⟨x0, x1, x2, x3, xf0, xf1, xf2, xf3⟩ := H7.out.x.cells
    obtain ⟨u0, u1, u2, u3, uf0, uf1, uf2, uf3⟩ := H7.out.u.cells
    obtain ⟨l0, l1, l2, l3, lf0, lf1, lf2, lf3⟩ := H7.out.l.cells
    go_wp2_with fail
    refine (union_any _ 3 3 [di, up, lo] _ rfl (sets_block _ _ [di, up, lo] _ 68 (block_at _ _ _ (by simp)) rfl) (by omega) (by omega)).mono ?_; rintro e w5 ⟨rfl, b5⟩
    have H8 := Lib.hid (((H7.out.put di).alloc _).below b5)
    clear b5
    generalize unionS [di, up, lo] = R at *
    unfold setV wv
    clear x0 xf0 x1 xf1 x2 xf2 x3 xf3 d0 df0 d1 df1 d2 df2 d3 df3 u0 uf0 u1 uf1 u2 uf2 u3 uf3 l0 lf0 l1 lf1 l2 lf2 l3 lf3
    obtain ⟨x0, x1, x2, x3, xf0, xf1, xf2, xf3⟩ := H8.out.x.cells
    go_wp2_with fail
    go_meet
    case rel => exact ⟨rfl, R, clsMet_of HTL.out h HC_alnum.out, (H8.out.put R).x, (H8.out.put R).z, (H8.out.put R).b⟩
  case rest =>
    obtain ⟨rfl, S, hm, hx, hz, hb⟩ := hcut
    have HM := Lib.hid hm
    have HX := Lib.hid hx
    have HZZ := Lib.hid hz
    have HBB := Lib.hid hb
    obtain ⟨x0, x1, x2, x3, xf0, xf1, xf2, xf3⟩ := hx.cells
    obtain ⟨z0, z1, z2, z3, zf0, zf1, zf2, zf3⟩ := hz.cells
    clear hm hx hz hb
    go_wp2_with fail
    have HY := Lib.hid (put4_at S HZZ.out)
    have HG := Lib.hid (put4_grown wc w.heap.size S)
    change bodyPost _ _ _ _ _ (put4 wc w.heap.size S)
    generalize put4 wc w.heap.size S = W2 at *
    obtain ⟨p0, p1, p2, p3, -⟩ := HY.out.cells
    (try simp only [Exit.inBlock, Exit.then])
    refine bodyPost_ret (v := .tuple #[setV S, .bool true]) (by simp [results, Tryd.results89, go_sem, p0, p1, p2, p3, setV, wv]) rfl ?_
    rw [show classS (bl s) = some S from HM.out]
    exact ⟨rfl, HBB.out.grown HG.out HBB.out.size (fun r hr => by have := Option.some.inj hr; omega)⟩

set_option maxRecDepth 100000 in
set_option maxHeartbeats 4000000 in
theorem class_alpha (s : ByteArray) (w : World) (hs : s.size ≤ 9223372036854775807) (h : (s.toList == [97, 108, 112, 104, 97]) = true) :
    Calls Tryd.prog 89 #[.string s] w fun e w' => e = .returned (.tuple #[setV ((classS (bl s)).getD 0), .bool (classS (bl s)).isSome]) ∧ Below w.heap.size w w' := by
  have h0 : (s.toList == [97, 108, 110, 117, 109]) = false := by rw [show s.toList = [97, 108, 112, 104, 97] by simpa using h]; rfl
  have HTL := Lib.hid (toList_bl s)
  have HC_alpha := Lib.hid (show classS [97, 108, 112, 104, 97] = some (unionS [0, rangeS 65 90, rangeS 97 122]) from rfl)
  have HR := Lib.hid (fun lo hi w h0 h1 => range_any lo hi w h0 h1)
  have HZ := Lib.hid (setat_alloc w)
  have HB0 := Lib.hid (show Below w.heap.size w (w.alloc (.cells #[.int .u64 0, .int .u64 0, .int .u64 0, .int .u64 0] 68)) from (Below.refl _ _).alloc (Nat.le_refl _) _)
  go_enter Tryd.func89, Tryd.ntmps89
  go_wp2_with fail
  generalize w.alloc (.cells #[.int .u64 0, .int .u64 0, .int .u64 0, .int .u64 0] 68) = W0 at *
  refine (HR.out 33 126 _ (by omega) (by omega)).mono ?_; rintro e w1 ⟨rfl, b1⟩
  have HZ1 := Lib.hid (HZ.out.below b1 HZ.out.lt)
  have HB1 := Lib.hid (HB0.out.trans (b1.mono HB0.out.size))
  clear b1 HZ HB0
  go_wp2_with fail
  refine (HR.out 48 57 _ (by omega) (by omega)).mono ?_; rintro e w2 ⟨rfl, b2⟩
  have HZ2 := Lib.hid (HZ1.out.below b2 HZ1.out.lt)
  have HB2 := Lib.hid (HB1.out.trans (b2.mono HB1.out.size))
  clear b2 HZ1 HB1
  have HA := Lib.hid (alloc_two w2 (rangeS 33 126) (rangeS 48 57))
  unfold setV wv
  generalize rangeS 33 126 = gr at *
  generalize rangeS 48 57 = di at *
  go_wp2_with fail
  have HAA := HA.out
  have HZ3 := Lib.hid (HZ2.out.below HAA.2.2.1 HZ2.out.lt)
  have HB3 := Lib.hid (HB2.out.trans (HAA.2.2.1.mono HB2.out.size))
  have HL3 := Lib.hid (show w.heap.size < w2.heap.size from HZ2.out.lt)
  have hw0 := HL3.out
  clear HZ2 HB2 HA
  generalize ((w2.alloc (.cells #[.int .u64 (wd gr 0), .int .u64 (wd gr 1), .int .u64 (wd gr 2), .int .u64 (wd gr 3)] 68)).alloc (.cells #[.int .u64 (wd di 0), .int .u64 (wd di 1), .int .u64 (wd di 2), .int .u64 (wd di 3)] 68)) = W3 at *
  generalize w2.heap.size = G at *
  have HA := Lib.hid HAA
  clear HAA
  refine (HR.out 65 90 _ (by omega) (by omega)).mono ?_; rintro e w3 ⟨rfl, b3⟩
  have HZ4 := Lib.hid (HZ3.out.below b3 HZ3.out.lt)
  have HG4 := Lib.hid (HA.out.1.below b3 HA.out.1.lt)
  have HD4 := Lib.hid (HA.out.2.1.below b3 HA.out.2.1.lt)
  have HB4 := Lib.hid (HB3.out.trans (b3.mono HB3.out.size))
  clear b3 HZ3 HB3 HA
  go_wp2_with fail
  refine (HR.out 97 122 _ (by omega) (by omega)).mono ?_; rintro e w4 ⟨rfl, b4⟩
  have HZ5 := Lib.hid (HZ4.out.below b4 HZ4.out.lt)
  have HG5 := Lib.hid (HG4.out.below b4 HG4.out.lt)
  have HD5 := Lib.hid (HD4.out.below b4 HD4.out.lt)
  have HB5 := Lib.hid (HB4.out.trans (b4.mono HB4.out.size))
  clear b4 HZ4 HB4 HG4 HD4
  have HA := Lib.hid (alloc_two w4 (rangeS 65 90) (rangeS 97 122))
  unfold setV wv
  generalize rangeS 65 90 = up at *
  generalize rangeS 97 122 = lo at *
  go_upto_block 0 with fail
  have HAA := HA.out
  have HZ6 := HZ5.out.below HAA.2.2.1 HZ5.out.lt
  have HG6 := HG5.out.below HAA.2.2.1 HG5.out.lt
  have HD6 := HD5.out.below HAA.2.2.1 HD5.out.lt
  have HB6 := HB5.out.trans (HAA.2.2.1.mono HB5.out.size)
  have HT := setat_alloc ((w4.alloc (.cells #[.int .u64 (wd up 0), .int .u64 (wd up 1), .int .u64 (wd up 2), .int .u64 (wd up 3)] 68)).alloc (.cells #[.int .u64 (wd lo 0), .int .u64 (wd lo 1), .int .u64 (wd lo 2), .int .u64 (wd lo 3)] 68))
  rw [HAA.2.2.2] at HT
  have HTB := fun row => alloc_grown ((w4.alloc (.cells #[.int .u64 (wd up 0), .int .u64 (wd up 1), .int .u64 (wd up 2), .int .u64 (wd up 3)] 68)).alloc (.cells #[.int .u64 (wd lo 0), .int .u64 (wd lo 1), .int .u64 (wd lo 2), .int .u64 (wd lo 3)] 68)) (.cells #[.int .u64 0, .int .u64 0, .int .u64 0, .int .u64 0] 68) row
  have q1 := HL3.out
  have q2 := HD5.out.lt
  have H7 := Lib.hid (show ClsAt w _ G (G + 1) w4.heap.size (w4.heap.size + 1) (w4.heap.size + 1 + 1) gr di up lo 0 from ⟨HZ6.kept (HTB none) (by simp), HG6.kept (HTB none) (by simp), HD6.kept (HTB none) (by simp), HAA.1.kept (HTB none) (by simp), HAA.2.1.kept (HTB none) (by simp), HT, by omega, by omega, by omega, by omega, by omega, HB6.alloc HB6.size _⟩)
  clear HAA HZ6 HG6 HD6 HB6 HT HTB HA HZ5 HG5 HD5 HB5 hw0 HL3 q1 q2
  generalize (((w4.alloc (.cells #[.int .u64 (wd up 0), .int .u64 (wd up 1), .int .u64 (wd up 2), .int .u64 (wd up 3)] 68)).alloc (.cells #[.int .u64 (wd lo 0), .int .u64 (wd lo 1), .int .u64 (wd lo 2), .int .u64 (wd lo 3)] 68)).alloc (.cells #[.int .u64 0, .int .u64 0, .int .u64 0, .int .u64 0] 68)) = W7 at *
  generalize w4.heap.size + 1 + 1 = V at *
  generalize w4.heap.size + 1 = L at *
  generalize w4.heap.size = U at *
  generalize G + 1 = D at *
  clear w1 w2 w3 w4 W3 W0
  have nG : ¬ G = V := fun e => by have := H7.out.ng; omega
  have nD : ¬ D = V := fun e => by have := H7.out.nd; omega
  have nU : ¬ U = V := fun e => by have := H7.out.nu; omega
  have nL : ¬ L = V := fun e => by have := H7.out.nl; omega
  go_cut [8] from 14 to 74 (fun p wx => p = .pointer (some ⟨V, 0, none⟩) ∧ ∃ S, ClsMet (bl s) S ∧ SetAt wx V S ∧ SetAt wx w.heap.size 0 ∧ Below w.heap.size w wx)
  case first =>
    obtain ⟨x0, x1, x2, x3, xf0, xf1, xf2, xf3⟩ := H7.out.x.cells
    obtain ⟨u0, u1, u2, u3, uf0, uf1, uf2, uf3⟩ := H7.out.u.cells
    obtain ⟨l0, l1, l2, l3, lf0, lf1, lf2, lf3⟩ := H7.out.l.cells
    go_wp2_with fail
    refine (union_any _ 3 3 [0, up, lo] _ rfl (sets_block _ _ [0, up, lo] _ 68 (block_at _ _ _ (by simp)) rfl) (by omega) (by omega)).mono ?_; rintro e w5 ⟨rfl, b5⟩
    have H8 := Lib.hid ((H7.out.alloc _).below b5)
    clear b5
    generalize unionS [0, up, lo] = R at *
    unfold setV wv
    clear x0 xf0 x1 xf1 x2 xf2 x3 xf3 u0 uf0 u1 uf1 u2 uf2 u3 uf3 l0 lf0 l1 lf1 l2 lf2 l3 lf3
    obtain ⟨x0, x1, x2, x3, xf0, xf1, xf2, xf3⟩ := H8.out.x.cells
    go_wp2_with fail
    go_meet
    case rel => exact ⟨rfl, R, clsMet_of HTL.out h HC_alpha.out, (H8.out.put R).x, (H8.out.put R).z, (H8.out.put R).b⟩
  case rest =>
    obtain ⟨rfl, S, hm, hx, hz, hb⟩ := hcut
    have HM := Lib.hid hm
    have HX := Lib.hid hx
    have HZZ := Lib.hid hz
    have HBB := Lib.hid hb
    obtain ⟨x0, x1, x2, x3, xf0, xf1, xf2, xf3⟩ := hx.cells
    obtain ⟨z0, z1, z2, z3, zf0, zf1, zf2, zf3⟩ := hz.cells
    clear hm hx hz hb
    go_wp2_with fail
    have HY := Lib.hid (put4_at S HZZ.out)
    have HG := Lib.hid (put4_grown wc w.heap.size S)
    change bodyPost _ _ _ _ _ (put4 wc w.heap.size S)
    generalize put4 wc w.heap.size S = W2 at *
    obtain ⟨p0, p1, p2, p3, -⟩ := HY.out.cells
    (try simp only [Exit.inBlock, Exit.then])
    refine bodyPost_ret (v := .tuple #[setV S, .bool true]) (by simp [results, Tryd.results89, go_sem, p0, p1, p2, p3, setV, wv]) rfl ?_
    rw [show classS (bl s) = some S from HM.out]
    exact ⟨rfl, HBB.out.grown HG.out HBB.out.size (fun r hr => by have := Option.some.inj hr; omega)⟩

set_option maxRecDepth 100000 in
set_option maxHeartbeats 4000000 in
theorem class_digit (s : ByteArray) (w : World) (hs : s.size ≤ 9223372036854775807) (h : (s.toList == [100, 105, 103, 105, 116]) = true) :
    Calls Tryd.prog 89 #[.string s] w fun e w' => e = .returned (.tuple #[setV ((classS (bl s)).getD 0), .bool (classS (bl s)).isSome]) ∧ Below w.heap.size w w' := by
  have h0 : (s.toList == [97, 108, 110, 117, 109]) = false := by rw [show s.toList = [100, 105, 103, 105, 116] by simpa using h]; rfl
  have h1 : (s.toList == [97, 108, 112, 104, 97]) = false := by rw [show s.toList = [100, 105, 103, 105, 116] by simpa using h]; rfl
  have HTL := Lib.hid (toList_bl s)
  have HC_digit := Lib.hid (show classS [100, 105, 103, 105, 116] = some (rangeS 48 57) from rfl)
  have HR := Lib.hid (fun lo hi w h0 h1 => range_any lo hi w h0 h1)
  have HZ := Lib.hid (setat_alloc w)
  have HB0 := Lib.hid (show Below w.heap.size w (w.alloc (.cells #[.int .u64 0, .int .u64 0, .int .u64 0, .int .u64 0] 68)) from (Below.refl _ _).alloc (Nat.le_refl _) _)
  go_enter Tryd.func89, Tryd.ntmps89
  go_wp2_with fail
  generalize w.alloc (.cells #[.int .u64 0, .int .u64 0, .int .u64 0, .int .u64 0] 68) = W0 at *
  refine (HR.out 33 126 _ (by omega) (by omega)).mono ?_; rintro e w1 ⟨rfl, b1⟩
  have HZ1 := Lib.hid (HZ.out.below b1 HZ.out.lt)
  have HB1 := Lib.hid (HB0.out.trans (b1.mono HB0.out.size))
  clear b1 HZ HB0
  go_wp2_with fail
  refine (HR.out 48 57 _ (by omega) (by omega)).mono ?_; rintro e w2 ⟨rfl, b2⟩
  have HZ2 := Lib.hid (HZ1.out.below b2 HZ1.out.lt)
  have HB2 := Lib.hid (HB1.out.trans (b2.mono HB1.out.size))
  clear b2 HZ1 HB1
  have HA := Lib.hid (alloc_two w2 (rangeS 33 126) (rangeS 48 57))
  unfold setV wv
  generalize rangeS 33 126 = gr at *
  generalize rangeS 48 57 = di at *
  go_wp2_with fail
  have HAA := HA.out
  have HZ3 := Lib.hid (HZ2.out.below HAA.2.2.1 HZ2.out.lt)
  have HB3 := Lib.hid (HB2.out.trans (HAA.2.2.1.mono HB2.out.size))
  have HL3 := Lib.hid (show w.heap.size < w2.heap.size from HZ2.out.lt)
  have hw0 := HL3.out
  clear HZ2 HB2 HA
  generalize ((w2.alloc (.cells #[.int .u64 (wd gr 0), .int .u64 (wd gr 1), .int .u64 (wd gr 2), .int .u64 (wd gr 3)] 68)).alloc (.cells #[.int .u64 (wd di 0), .int .u64 (wd di 1), .int .u64 (wd di 2), .int .u64 (wd di 3)] 68)) = W3 at *
  generalize w2.heap.size = G at *
  have HA := Lib.hid HAA
  clear HAA
  refine (HR.out 65 90 _ (by omega) (by omega)).mono ?_; rintro e w3 ⟨rfl, b3⟩
  have HZ4 := Lib.hid (HZ3.out.below b3 HZ3.out.lt)
  have HG4 := Lib.hid (HA.out.1.below b3 HA.out.1.lt)
  have HD4 := Lib.hid (HA.out.2.1.below b3 HA.out.2.1.lt)
  have HB4 := Lib.hid (HB3.out.trans (b3.mono HB3.out.size))
  clear b3 HZ3 HB3 HA
  go_wp2_with fail
  refine (HR.out 97 122 _ (by omega) (by omega)).mono ?_; rintro e w4 ⟨rfl, b4⟩
  have HZ5 := Lib.hid (HZ4.out.below b4 HZ4.out.lt)
  have HG5 := Lib.hid (HG4.out.below b4 HG4.out.lt)
  have HD5 := Lib.hid (HD4.out.below b4 HD4.out.lt)
  have HB5 := Lib.hid (HB4.out.trans (b4.mono HB4.out.size))
  clear b4 HZ4 HB4 HG4 HD4
  have HA := Lib.hid (alloc_two w4 (rangeS 65 90) (rangeS 97 122))
  unfold setV wv
  generalize rangeS 65 90 = up at *
  generalize rangeS 97 122 = lo at *
  go_upto_block 0 with fail
  have HAA := HA.out
  have HZ6 := HZ5.out.below HAA.2.2.1 HZ5.out.lt
  have HG6 := HG5.out.below HAA.2.2.1 HG5.out.lt
  have HD6 := HD5.out.below HAA.2.2.1 HD5.out.lt
  have HB6 := HB5.out.trans (HAA.2.2.1.mono HB5.out.size)
  have HT := setat_alloc ((w4.alloc (.cells #[.int .u64 (wd up 0), .int .u64 (wd up 1), .int .u64 (wd up 2), .int .u64 (wd up 3)] 68)).alloc (.cells #[.int .u64 (wd lo 0), .int .u64 (wd lo 1), .int .u64 (wd lo 2), .int .u64 (wd lo 3)] 68))
  rw [HAA.2.2.2] at HT
  have HTB := fun row => alloc_grown ((w4.alloc (.cells #[.int .u64 (wd up 0), .int .u64 (wd up 1), .int .u64 (wd up 2), .int .u64 (wd up 3)] 68)).alloc (.cells #[.int .u64 (wd lo 0), .int .u64 (wd lo 1), .int .u64 (wd lo 2), .int .u64 (wd lo 3)] 68)) (.cells #[.int .u64 0, .int .u64 0, .int .u64 0, .int .u64 0] 68) row
  have q1 := HL3.out
  have q2 := HD5.out.lt
  have H7 := Lib.hid (show ClsAt w _ G (G + 1) w4.heap.size (w4.heap.size + 1) (w4.heap.size + 1 + 1) gr di up lo 0 from ⟨HZ6.kept (HTB none) (by simp), HG6.kept (HTB none) (by simp), HD6.kept (HTB none) (by simp), HAA.1.kept (HTB none) (by simp), HAA.2.1.kept (HTB none) (by simp), HT, by omega, by omega, by omega, by omega, by omega, HB6.alloc HB6.size _⟩)
  clear HAA HZ6 HG6 HD6 HB6 HT HTB HA HZ5 HG5 HD5 HB5 hw0 HL3 q1 q2
  generalize (((w4.alloc (.cells #[.int .u64 (wd up 0), .int .u64 (wd up 1), .int .u64 (wd up 2), .int .u64 (wd up 3)] 68)).alloc (.cells #[.int .u64 (wd lo 0), .int .u64 (wd lo 1), .int .u64 (wd lo 2), .int .u64 (wd lo 3)] 68)).alloc (.cells #[.int .u64 0, .int .u64 0, .int .u64 0, .int .u64 0] 68)) = W7 at *
  generalize w4.heap.size + 1 + 1 = V at *
  generalize w4.heap.size + 1 = L at *
  generalize w4.heap.size = U at *
  generalize G + 1 = D at *
  clear w1 w2 w3 w4 W3 W0
  have nG : ¬ G = V := fun e => by have := H7.out.ng; omega
  have nD : ¬ D = V := fun e => by have := H7.out.nd; omega
  have nU : ¬ U = V := fun e => by have := H7.out.nu; omega
  have nL : ¬ L = V := fun e => by have := H7.out.nl; omega
  go_cut [8] from 14 to 74 (fun p wx => p = .pointer (some ⟨V, 0, none⟩) ∧ ∃ S, ClsMet (bl s) S ∧ SetAt wx V S ∧ SetAt wx w.heap.size 0 ∧ Below w.heap.size w wx)
  case first =>
    obtain ⟨d0, d1, d2, d3, df0, df1, df2, df3⟩ := H7.out.d.cells
    obtain ⟨x0, x1, x2, x3, xf0, xf1, xf2, xf3⟩ := H7.out.x.cells
    go_wp2_with fail
    go_meet
    case rel => exact ⟨rfl, di, clsMet_of HTL.out h HC_digit.out, (H7.out.put di).x, (H7.out.put di).z, (H7.out.put di).b⟩
  case rest =>
    obtain ⟨rfl, S, hm, hx, hz, hb⟩ := hcut
    have HM := Lib.hid hm
    have HX := Lib.hid hx
    have HZZ := Lib.hid hz
    have HBB := Lib.hid hb
    obtain ⟨x0, x1, x2, x3, xf0, xf1, xf2, xf3⟩ := hx.cells
    obtain ⟨z0, z1, z2, z3, zf0, zf1, zf2, zf3⟩ := hz.cells
    clear hm hx hz hb
    go_wp2_with fail
    have HY := Lib.hid (put4_at S HZZ.out)
    have HG := Lib.hid (put4_grown wc w.heap.size S)
    change bodyPost _ _ _ _ _ (put4 wc w.heap.size S)
    generalize put4 wc w.heap.size S = W2 at *
    obtain ⟨p0, p1, p2, p3, -⟩ := HY.out.cells
    (try simp only [Exit.inBlock, Exit.then])
    refine bodyPost_ret (v := .tuple #[setV S, .bool true]) (by simp [results, Tryd.results89, go_sem, p0, p1, p2, p3, setV, wv]) rfl ?_
    rw [show classS (bl s) = some S from HM.out]
    exact ⟨rfl, HBB.out.grown HG.out HBB.out.size (fun r hr => by have := Option.some.inj hr; omega)⟩

set_option maxRecDepth 100000 in
set_option maxHeartbeats 4000000 in
theorem class_upper (s : ByteArray) (w : World) (hs : s.size ≤ 9223372036854775807) (h : (s.toList == [117, 112, 112, 101, 114]) = true) :
    Calls Tryd.prog 89 #[.string s] w fun e w' => e = .returned (.tuple #[setV ((classS (bl s)).getD 0), .bool (classS (bl s)).isSome]) ∧ Below w.heap.size w w' := by
  have h0 : (s.toList == [97, 108, 110, 117, 109]) = false := by rw [show s.toList = [117, 112, 112, 101, 114] by simpa using h]; rfl
  have h1 : (s.toList == [97, 108, 112, 104, 97]) = false := by rw [show s.toList = [117, 112, 112, 101, 114] by simpa using h]; rfl
  have h2 : (s.toList == [100, 105, 103, 105, 116]) = false := by rw [show s.toList = [117, 112, 112, 101, 114] by simpa using h]; rfl
  have HTL := Lib.hid (toList_bl s)
  have HC_upper := Lib.hid (show classS [117, 112, 112, 101, 114] = some (rangeS 65 90) from rfl)
  have HR := Lib.hid (fun lo hi w h0 h1 => range_any lo hi w h0 h1)
  have HZ := Lib.hid (setat_alloc w)
  have HB0 := Lib.hid (show Below w.heap.size w (w.alloc (.cells #[.int .u64 0, .int .u64 0, .int .u64 0, .int .u64 0] 68)) from (Below.refl _ _).alloc (Nat.le_refl _) _)
  go_enter Tryd.func89, Tryd.ntmps89
  go_wp2_with fail
  generalize w.alloc (.cells #[.int .u64 0, .int .u64 0, .int .u64 0, .int .u64 0] 68) = W0 at *
  refine (HR.out 33 126 _ (by omega) (by omega)).mono ?_; rintro e w1 ⟨rfl, b1⟩
  have HZ1 := Lib.hid (HZ.out.below b1 HZ.out.lt)
  have HB1 := Lib.hid (HB0.out.trans (b1.mono HB0.out.size))
  clear b1 HZ HB0
  go_wp2_with fail
  refine (HR.out 48 57 _ (by omega) (by omega)).mono ?_; rintro e w2 ⟨rfl, b2⟩
  have HZ2 := Lib.hid (HZ1.out.below b2 HZ1.out.lt)
  have HB2 := Lib.hid (HB1.out.trans (b2.mono HB1.out.size))
  clear b2 HZ1 HB1
  have HA := Lib.hid (alloc_two w2 (rangeS 33 126) (rangeS 48 57))
  unfold setV wv
  generalize rangeS 33 126 = gr at *
  generalize rangeS 48 57 = di at *
  go_wp2_with fail
  have HAA := HA.out
  have HZ3 := Lib.hid (HZ2.out.below HAA.2.2.1 HZ2.out.lt)
  have HB3 := Lib.hid (HB2.out.trans (HAA.2.2.1.mono HB2.out.size))
  have HL3 := Lib.hid (show w.heap.size < w2.heap.size from HZ2.out.lt)
  have hw0 := HL3.out
  clear HZ2 HB2 HA
  generalize ((w2.alloc (.cells #[.int .u64 (wd gr 0), .int .u64 (wd gr 1), .int .u64 (wd gr 2), .int .u64 (wd gr 3)] 68)).alloc (.cells #[.int .u64 (wd di 0), .int .u64 (wd di 1), .int .u64 (wd di 2), .int .u64 (wd di 3)] 68)) = W3 at *
  generalize w2.heap.size = G at *
  have HA := Lib.hid HAA
  clear HAA
  refine (HR.out 65 90 _ (by omega) (by omega)).mono ?_; rintro e w3 ⟨rfl, b3⟩
  have HZ4 := Lib.hid (HZ3.out.below b3 HZ3.out.lt)
  have HG4 := Lib.hid (HA.out.1.below b3 HA.out.1.lt)
  have HD4 := Lib.hid (HA.out.2.1.below b3 HA.out.2.1.lt)
  have HB4 := Lib.hid (HB3.out.trans (b3.mono HB3.out.size))
  clear b3 HZ3 HB3 HA
  go_wp2_with fail
  refine (HR.out 97 122 _ (by omega) (by omega)).mono ?_; rintro e w4 ⟨rfl, b4⟩
  have HZ5 := Lib.hid (HZ4.out.below b4 HZ4.out.lt)
  have HG5 := Lib.hid (HG4.out.below b4 HG4.out.lt)
  have HD5 := Lib.hid (HD4.out.below b4 HD4.out.lt)
  have HB5 := Lib.hid (HB4.out.trans (b4.mono HB4.out.size))
  clear b4 HZ4 HB4 HG4 HD4
  have HA := Lib.hid (alloc_two w4 (rangeS 65 90) (rangeS 97 122))
  unfold setV wv
  generalize rangeS 65 90 = up at *
  generalize rangeS 97 122 = lo at *
  go_upto_block 0 with fail
  have HAA := HA.out
  have HZ6 := HZ5.out.below HAA.2.2.1 HZ5.out.lt
  have HG6 := HG5.out.below HAA.2.2.1 HG5.out.lt
  have HD6 := HD5.out.below HAA.2.2.1 HD5.out.lt
  have HB6 := HB5.out.trans (HAA.2.2.1.mono HB5.out.size)
  have HT := setat_alloc ((w4.alloc (.cells #[.int .u64 (wd up 0), .int .u64 (wd up 1), .int .u64 (wd up 2), .int .u64 (wd up 3)] 68)).alloc (.cells #[.int .u64 (wd lo 0), .int .u64 (wd lo 1), .int .u64 (wd lo 2), .int .u64 (wd lo 3)] 68))
  rw [HAA.2.2.2] at HT
  have HTB := fun row => alloc_grown ((w4.alloc (.cells #[.int .u64 (wd up 0), .int .u64 (wd up 1), .int .u64 (wd up 2), .int .u64 (wd up 3)] 68)).alloc (.cells #[.int .u64 (wd lo 0), .int .u64 (wd lo 1), .int .u64 (wd lo 2), .int .u64 (wd lo 3)] 68)) (.cells #[.int .u64 0, .int .u64 0, .int .u64 0, .int .u64 0] 68) row
  have q1 := HL3.out
  have q2 := HD5.out.lt
  have H7 := Lib.hid (show ClsAt w _ G (G + 1) w4.heap.size (w4.heap.size + 1) (w4.heap.size + 1 + 1) gr di up lo 0 from ⟨HZ6.kept (HTB none) (by simp), HG6.kept (HTB none) (by simp), HD6.kept (HTB none) (by simp), HAA.1.kept (HTB none) (by simp), HAA.2.1.kept (HTB none) (by simp), HT, by omega, by omega, by omega, by omega, by omega, HB6.alloc HB6.size _⟩)
  clear HAA HZ6 HG6 HD6 HB6 HT HTB HA HZ5 HG5 HD5 HB5 hw0 HL3 q1 q2
  generalize (((w4.alloc (.cells #[.int .u64 (wd up 0), .int .u64 (wd up 1), .int .u64 (wd up 2), .int .u64 (wd up 3)] 68)).alloc (.cells #[.int .u64 (wd lo 0), .int .u64 (wd lo 1), .int .u64 (wd lo 2), .int .u64 (wd lo 3)] 68)).alloc (.cells #[.int .u64 0, .int .u64 0, .int .u64 0, .int .u64 0] 68)) = W7 at *
  generalize w4.heap.size + 1 + 1 = V at *
  generalize w4.heap.size + 1 = L at *
  generalize w4.heap.size = U at *
  generalize G + 1 = D at *
  clear w1 w2 w3 w4 W3 W0
  have nG : ¬ G = V := fun e => by have := H7.out.ng; omega
  have nD : ¬ D = V := fun e => by have := H7.out.nd; omega
  have nU : ¬ U = V := fun e => by have := H7.out.nu; omega
  have nL : ¬ L = V := fun e => by have := H7.out.nl; omega
  go_cut [8] from 14 to 74 (fun p wx => p = .pointer (some ⟨V, 0, none⟩) ∧ ∃ S, ClsMet (bl s) S ∧ SetAt wx V S ∧ SetAt wx w.heap.size 0 ∧ Below w.heap.size w wx)
  case first =>
    obtain ⟨u0, u1, u2, u3, uf0, uf1, uf2, uf3⟩ := H7.out.u.cells
    obtain ⟨x0, x1, x2, x3, xf0, xf1, xf2, xf3⟩ := H7.out.x.cells
    go_wp2_with fail
    go_meet
    case rel => exact ⟨rfl, up, clsMet_of HTL.out h HC_upper.out, (H7.out.put up).x, (H7.out.put up).z, (H7.out.put up).b⟩
  case rest =>
    obtain ⟨rfl, S, hm, hx, hz, hb⟩ := hcut
    have HM := Lib.hid hm
    have HX := Lib.hid hx
    have HZZ := Lib.hid hz
    have HBB := Lib.hid hb
    obtain ⟨x0, x1, x2, x3, xf0, xf1, xf2, xf3⟩ := hx.cells
    obtain ⟨z0, z1, z2, z3, zf0, zf1, zf2, zf3⟩ := hz.cells
    clear hm hx hz hb
    go_wp2_with fail
    have HY := Lib.hid (put4_at S HZZ.out)
    have HG := Lib.hid (put4_grown wc w.heap.size S)
    change bodyPost _ _ _ _ _ (put4 wc w.heap.size S)
    generalize put4 wc w.heap.size S = W2 at *
    obtain ⟨p0, p1, p2, p3, -⟩ := HY.out.cells
    (try simp only [Exit.inBlock, Exit.then])
    refine bodyPost_ret (v := .tuple #[setV S, .bool true]) (by simp [results, Tryd.results89, go_sem, p0, p1, p2, p3, setV, wv]) rfl ?_
    rw [show classS (bl s) = some S from HM.out]
    exact ⟨rfl, HBB.out.grown HG.out HBB.out.size (fun r hr => by have := Option.some.inj hr; omega)⟩

end Go.Proofs.YtafmhhhboihdfaaDoor
