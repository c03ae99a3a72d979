/-
  The document's answer: a class within a bracket. Conditions: those that each theorem names.
-/
import Derived.Test.YtafmhhhboihdfaaDoorRItem
import Derived.Test.YtafmhhhboihdfaaDoorRClass
namespace Go.Proofs.YtafmhhhboihdfaaDoor
open Go.RowKit
set_option linter.unusedVariables false
attribute [local go_sem ↓] Go.wp_at_zero Go.wp_at_succ
/-- no end of a name stands ahead of a place -/
def NmLeft (l : List UInt8) (a j : Nat) : Prop := nameS (l.drop a) = (nameS (l.drop j)).map ((l.drop a).take (j - a) ++ ·)
theorem nm_start (l : List UInt8) (a : Nat) : NmLeft l a a := by
  unfold NmLeft
  rw [Nat.sub_self, List.take_zero]
  cases nameS (l.drop a) <;> simp
theorem nm_step {l : List UInt8} {a j : Nat} (h : NmLeft l a j) (ha : a ≤ j) (hj : j < l.length) (hn : ¬ (l[j] = 58 ∧ (l.drop (j + 1)).head? = some 93)) : NmLeft l a (j + 1) := by
  unfold NmLeft at h ⊢
  rw [h, List.drop_eq_getElem_cons hj, nameS, if_neg hn]
  have e : (l.drop a).take (j + 1 - a) = (l.drop a).take (j - a) ++ [l[j]] := by
    rw [show j + 1 - a = (j - a) + 1 by omega, take_one _ _ (by simp; omega), List.getElem_drop]
    congr 3; omega
  rw [e]
  cases nameS (l.drop (j + 1)) <;> simp
theorem nm_found {l : List UInt8} {a j : Nat} (h : NmLeft l a j) (hj : j < l.length) (hn : l[j] = 58 ∧ (l.drop (j + 1)).head? = some 93) : nameS (l.drop a) = some ((l.drop a).take (j - a)) := by
  unfold NmLeft at h
  rw [h, List.drop_eq_getElem_cons hj, nameS, if_pos hn]
  simp
theorem nm_end {l : List UInt8} {a j : Nat} (h : NmLeft l a j) (hj : l.length ≤ j + 1) : nameS (l.drop a) = none := by
  unfold NmLeft at h
  rw [h]
  rcases Nat.lt_or_ge j l.length with h1 | h1
  · rw [List.drop_eq_getElem_cons h1, List.drop_eq_nil_of_le hj]; simp [nameS]
  · rw [List.drop_eq_nil_of_le h1]; simp [nameS]
/-- 'b[p:q]', and that as a string -/
theorem slice_mid (bb off m cap p q : Nat) (hpq : p ≤ q) (hq : q ≤ m) (hm : m ≤ cap) : ∃ A : Addr, (∀ W : World, (Instr.slice 22 (.slice (some ⟨bb, off, none⟩) m cap) (some (.int .i64 (p : Int))) (some (.int .i64 (q : Int))) none).run Tryd.prog W = .ok (.slice (some A) (q - p) (cap - p)) W) ∧
    ∀ (W : World) (l : List UInt8), l.length = m → (∀ i (h : i < l.length), W.cell? ⟨bb, off + i, none⟩ = some (.int .u8 (iv l[i]))) → (convert 22 9 (.slice (some A) (q - p) (cap - p))).run Tryd.prog W = .ok (.string ⟨((l.drop p).take (q - p)).toArray⟩) W := by
  rcases Nat.lt_or_ge p q with h | h
  · refine ⟨_, fun W => Lib.run_slice_window (P := Tryd.prog) W 22 5 Tryd.underlying22 size5 bb off m cap p q h (by omega), fun W l hl hx => ?_⟩
    refine conv_cells W bb (off + p) (q - p) (cap - p) _ (by simp; omega) fun i hi => ?_
    rw [List.getElem_take, List.getElem_drop, show off + p + i = off + (p + i) by omega]
    exact hx (p + i) (by simp at hi; omega)
  · obtain rfl : p = q := by omega
    have ht' : Tryd.prog.underlying 22 = some (.slice (Tryd.prog.elem 22)) := by simp [Program.elem, Tryd.underlying22]
    have he : Tryd.prog.elem 22 = 5 := by simp [Program.elem, Tryd.underlying22]
    refine ⟨if cap = p then ⟨bb, off, none⟩ else ⟨bb, off + p, none⟩, fun W => ?_, fun W l hl hx => ?_⟩
    · rw [run_slice_lh W 22 _ _ _ ht' .i64 .i64 _ _ (by omega) (by omega) (by omega), he, size5]
      by_cases h0 : cap = p
      · simp [Result.andThen, sliced, h0]
      · by_cases h1 : p = 0
        · subst h1; simp [Result.andThen, sliced, Addr.add, h0]
        · simp [Result.andThen, sliced, Addr.add, h0, h1]
    · have e : ∀ A : Addr, A.spot = none → (convert 22 9 (.slice (some A) (p - p) (cap - p))).run Tryd.prog W = .ok (.string ⟨((l.drop p).take (p - p)).toArray⟩) W := by
        rintro ⟨g, o, sp⟩ (rfl : sp = none)
        exact conv_cells W g o (p - p) (cap - p) _ (by simp) fun i hi => by simp at hi
      exact e _ (by split <;> rfl)
set_option maxRecDepth 100000 in
set_option maxHeartbeats 1600000 in
theorem ritem_cls (w : World) (a : Option Addr) (m cap i : Nat) (l : List UInt8) (c : UInt8) (t : List UInt8) (hb : HasB w a l) (hm : l.length = m) (ms : m ≤ cap) (cs : cap ≤ 9223372036854775807) (mb : m ≤ 256) (hd : l.drop i = c :: t)
    (h1 : c = 91) (h2 : t.head? = some 58) :
    Calls Tryd.prog 54 #[.slice a m cap, .int .i64 i, .int .i64 2] w fun e w' => RItem i (itemS c t) e ∧ Below w.heap.size w w' := by
  subst h1
  have hi := (drop_lt _ t hd).1
  obtain ⟨b, off, rfl, hlt, hx⟩ := hasB_at hb i hi
  have hI : (i : Int) < (m : Int) := by omega
  have hI0 : (0 : Int) ≤ (i : Int) := by omega
  have c0 := hx i hi
  rw [get_drop hd hi, show iv 91 = 91 from rfl] at c0
  have HZ := Lib.hid (setat_alloc w)
  have HB0 := Lib.hid (show Below w.heap.size w (w.alloc (.cells #[.int .u64 0, .int .u64 0, .int .u64 0, .int .u64 0] 68)) from (Below.refl _ _).alloc (Nat.le_refl _) _)
  cases t with
  | nil => simp at h2
  | cons d u =>
    obtain rfl : d = 58 := by simpa using h2
    have hd1 := (drop_lt _ _ hd).2.2
    have hi1 := (drop_lt _ u hd1).1
    have c1 := hx (i + 1) hi1
    rw [get_drop hd1 hi1] at c1
    obtain ⟨k, hk⟩ : ∃ k : Nat, k = i + 1 := ⟨_, rfl⟩
    rw [← hk] at c1
    have HK := Lib.hid hk
    have HX := Lib.hid hx
    have hkI : (i : Int) + 1 = (k : Int) := by omega
    have hJ : (k : Int) < (m : Int) := by omega
    have hJ0 : (0 : Int) ≤ (k : Int) := by omega
    rw [show iv 58 = 58 from rfl] at c1
    have HS := Lib.hid (show itemS 91 (58 :: u) = (nameS (l.drop (i + 2))).bind fun n => (classS n).map fun S => ⟨false, 0, S, n.length + 3⟩ by
      rw [show l.drop (i + 2) = u by rw [show i + 2 = i + 1 + 1 by omega, (drop_lt _ u hd1).2.2]]
      unfold itemS
      rw [if_neg (by simp), if_pos (by simp)]
      simp only [List.tail_cons]
      cases nameS u with
      | none => rfl
      | some n =>
        simp only [Option.bind_some]
        cases classS n <;> rfl)
    obtain ⟨p, hp⟩ : ∃ p : Nat, p = i + 2 := ⟨_, rfl⟩
    have hpI : (i : Int) + 2 = (p : Int) := by omega
    have hpm : p ≤ m := by omega
    have hpp : i + 2 ≤ p := by omega
    rw [← hp] at HS
    have HP := Lib.hid hp
    have HM := Lib.hid hm
    have HLT := Lib.hid hlt
    clear hb hm hd hx hd1 hk h2 hi1 hi hp
    go_enter Tryd.func54, Tryd.ntmps54
    go_wp2_with fail
    generalize w.alloc (.cells #[.int .u64 0, .int .u64 0, .int .u64 0, .int .u64 0] 68) = W0 at *
    go_loopw [12] (fun kv wr => ∃ j : Nat, kv = .int .i64 j ∧ p ≤ j ∧ j ≤ m ∧ NmLeft l p j ∧ SetAt wr w.heap.size 0 ∧ Below w.heap.size w wr) (fun kv _ => m - (intOf kv).toNat)
    case atStart => exact ⟨p, rfl, Nat.le_refl _, hpm, nm_start l p, HZ.out, HB0.out⟩
    case round =>
      obtain ⟨j, rfl, hpj, hjm, hnm, hset, hbel⟩ := hrel
      have HN := Lib.hid hnm
      have HSE := Lib.hid hset
      have HB := Lib.hid hbel
      clear hnm hset hbel c0 c1 HZ HB0
      by_cases hj1 : j + 1 < m
      · have hjl : j < l.length := by rw [HM.out]; omega
        have hjl1 : j + 1 < l.length := by rw [HM.out]; omega
        have c0 : wr.cell? ⟨b, off + j, none⟩ = some (.int .u8 (iv l[j])) := (HB.out.cell (p := ⟨b, off + j, none⟩) HLT.out).trans (HX.out j hjl)
        have c1 : wr.cell? ⟨b, off + (j + 1), none⟩ = some (.int .u8 (iv l[j + 1])) := (HB.out.cell (p := ⟨b, off + (j + 1), none⟩) HLT.out).trans (HX.out (j + 1) hjl1)
        have hh : (l.drop (j + 1)).head? = some l[j + 1] := by rw [List.drop_eq_getElem_cons hjl1]; rfl
        obtain ⟨x, hxx⟩ : ∃ x, l[j] = x := ⟨_, rfl⟩
        obtain ⟨y, hyy⟩ : ∃ y, l[j + 1] = y := ⟨_, rfl⟩
        rw [hxx] at c0
        rw [hyy] at c1 hh
        have HST := Lib.hid (fun (hn : ¬ (x = 58 ∧ y = 93)) => nm_step HN.out hpj hjl (by rw [hxx, hh]; simpa using hn))
        have HFD := Lib.hid (fun (hn : x = 58 ∧ y = 93) => nm_found HN.out hjl (by rw [hxx, hh]; simpa using hn))
        obtain ⟨z, hz⟩ : ∃ z : Nat, z = j + 1 := ⟨_, rfl⟩
        rw [← hz] at HST
        have HZZ := Lib.hid hz
        have hzI : (j : Int) + 1 = (z : Int) := by omega
        have hz1 : (z : Int) < (m : Int) := by omega
        have hz2 : (0 : Int) ≤ (z : Int) := by omega
        have hj2 : (j : Int) < (m : Int) := by omega
        have hj3 : (0 : Int) ≤ (j : Int) := by omega
        have hpj2 : p ≤ z := by omega
        have hzm : z ≤ m := by omega
        have hjz : j < z := by omega
        rw [← hz] at c1
        clear hh hz hxx hyy
        by_cases hf : x = 58 ∧ y = 93
        · obtain ⟨rfl, rfl⟩ := hf
          rw [show iv 58 = 58 from rfl] at c0
          rw [show iv 93 = 93 from rfl] at c1
          have hnm := HFD.out ⟨rfl, rfl⟩
          obtain ⟨A, hsl, hcvv⟩ := slice_mid b off m cap p j hpj hjm ms
          obtain ⟨T, hT⟩ : ∃ T : ByteArray, T = ⟨((l.drop p).take (j - p)).toArray⟩ := ⟨_, rfl⟩
          have hTb : bl T = (l.drop p).take (j - p) := by rw [hT]; simp [bl]
          have hcv : ∀ q, (convert 22 9 (.slice (some A) (j - p) (cap - p))).run Tryd.prog (wr.drewN q) = .ok (.string T) (wr.drewN q) := fun q => by
            rw [hT]
            exact hcvv (wr.drewN q) l HM.out fun i hi => (HB.out.cell (p := ⟨b, off + i, none⟩) HLT.out).trans (HX.out i hi)
          have hcv0 := hcv 0
          rw [World.drewN_zero] at hcv0
          have hcl := fun w => rclass_any T w
          rw [hTb] at hcl
          rw [hnm] at HS
          have HCL := Lib.hid hcl
          have HTL := Lib.hid (show ((l.drop p).take (j - p)).length = j - p by simp; rw [HM.out]; omega)
          clear hcl hnm hcvv hT hTb HST HFD
          generalize (l.drop p).take (j - p) = nm at *
          cases hcs : classS nm with
          | none => 
            rw [hcs] at HCL
            have HCL2 := Lib.hid (show ∀ w : World, Calls Tryd.prog 65 #[.string T] w fun e w' => e = .returned (.tuple #[setV 0, .bool false]) ∧ Below w.heap.size w w' from HCL.out)
            have HCS := Lib.hid hcs
            obtain ⟨Z, hZ⟩ : ∃ Z : BitVec 256, 0 = Z := ⟨_, rfl⟩
            rw [hZ] at HCL2
            clear hcs HCL hZ
            go_wp2_with fail
            refine (HCL2.out _).mono ?_; rintro e w5 ⟨rfl, b5⟩
            have HZ5 := Lib.hid ((HSE.out.below b5 HSE.out.lt).kept (alloc_grown w5 (.cells #[.int .u64 (wd Z 0), .int .u64 (wd Z 1), .int .u64 (wd Z 2), .int .u64 (wd Z 3)] 68) none) (by simp))
            have HB4 := HB.out.trans (b5.mono HB.out.size)
            have HB5 := Lib.hid (HB4.alloc HB4.size (.cells #[.int .u64 (wd Z 0), .int .u64 (wd Z 1), .int .u64 (wd Z 2), .int .u64 (wd Z 3)] 68))
            have HY6 := Lib.hid (show SetAt (w5.alloc (.cells #[.int .u64 (wd Z 0), .int .u64 (wd Z 1), .int .u64 (wd Z 2), .int .u64 (wd Z 3)] 68)) w5.heap.size Z from heap_alloc_new _ _)
            have HL := Lib.hid (show w.heap.size < w5.heap.size from (HSE.out.below b5 HSE.out.lt).lt)
            clear b5 HB4 hsl hcv hcv0 HCL2 c0 c1
            unfold setV wv
            go_upto_region 11 with fail
            generalize w5.alloc (.cells #[.int .u64 (wd Z 0), .int .u64 (wd Z 1), .int .u64 (wd Z 2), .int .u64 (wd Z 3)] 68) = W6 at *
            generalize w5.heap.size = Y at *
            obtain ⟨z0, z1, z2, z3, zf0, zf1, zf2, zf3⟩ := HZ5.out.cells
            obtain ⟨y0, y1, y2, y3, -⟩ := HY6.out.cells
            have n1 : ¬ w.heap.size = Y := by have := HL.out; omega
            have n2 : ¬ Y = w.heap.size := by have := HL.out; omega
            go_region_held3 (fun W => W.cell? ⟨Y, 0, none⟩ = some (.int .u64 (wd Z 0)) ∧ W.cell? ⟨Y, 1, none⟩ = some (.int .u64 (wd Z 1)) ∧ W.cell? ⟨Y, 2, none⟩ = some (.int .u64 (wd Z 2)) ∧ W.cell? ⟨Y, 3, none⟩ = some (.int .u64 (wd Z 3))) (go_keep) (fail)
            have HY := Lib.hid (put4_at Z (show SetAt W6.drew w.heap.size 0 from HZ5.out))
            have HGG := Lib.hid (grown_trans (drew_grown W6 _) (put4_grown W6.drew w.heap.size Z))
            change Exit.then _ _ _ _ (put4 W6.drew w.heap.size Z)
            generalize put4 W6.drew w.heap.size Z = W2 at *
            obtain ⟨p0, p1, p2, p3, -⟩ := HY.out.cells
            go_wp2_with fail
            (try simp only [Exit.inBlock, Exit.then])
            refine bodyPost_ret (v := .tuple #[.int .i64 0, setV Z, .int .i64 i, .int .i64 8, .int .i64 i]) (by simp [results, Tryd.results54, go_sem, p0, p1, p2, p3, setV, wv]) rfl ?_
            rw [HS.out]
            simp only [Option.bind_some, HCS.out]
            exact ⟨⟨_, _, rfl⟩, HB5.out.grown HGG.out HB5.out.size (fun k hk => by have := Option.some.inj hk; omega)⟩
          | some S =>
            rw [hcs] at HCL
            have HCL2 := Lib.hid (show ∀ w : World, Calls Tryd.prog 65 #[.string T] w fun e w' => e = .returned (.tuple #[setV S, .bool true]) ∧ Below w.heap.size w w' from HCL.out)
            have HCS := Lib.hid hcs
            obtain ⟨v, hv⟩ : ∃ v : Nat, v = j + 2 := ⟨_, rfl⟩
            have hvI : (j : Int) + 2 = (v : Int) := by omega
            have hvm : v ≤ m + 1 := by omega
            have HV := Lib.hid hv
            have HVW := Lib.hid (show IntKind.i64.wrap (v : Int) = v by rw [IntKind.wrap_i64]; omega)
            clear hcs HCL hv
            go_wp2_with fail
            refine (HCL2.out _).mono ?_; rintro e w5 ⟨rfl, b5⟩
            have HZ5 := Lib.hid ((HSE.out.below b5 HSE.out.lt).kept (alloc_grown w5 (.cells #[.int .u64 (wd S 0), .int .u64 (wd S 1), .int .u64 (wd S 2), .int .u64 (wd S 3)] 68) none) (by simp))
            have HB4 := HB.out.trans (b5.mono HB.out.size)
            have HB5 := Lib.hid (HB4.alloc HB4.size (.cells #[.int .u64 (wd S 0), .int .u64 (wd S 1), .int .u64 (wd S 2), .int .u64 (wd S 3)] 68))
            have HY6 := Lib.hid (show SetAt (w5.alloc (.cells #[.int .u64 (wd S 0), .int .u64 (wd S 1), .int .u64 (wd S 2), .int .u64 (wd S 3)] 68)) w5.heap.size S from heap_alloc_new _ _)
            have HL := Lib.hid (show w.heap.size < w5.heap.size from (HSE.out.below b5 HSE.out.lt).lt)
            clear b5 HB4 hsl hcv hcv0 HCL2 c0 c1
            unfold setV wv
            go_upto_region 12 with fail
            generalize w5.alloc (.cells #[.int .u64 (wd S 0), .int .u64 (wd S 1), .int .u64 (wd S 2), .int .u64 (wd S 3)] 68) = W6 at *
            generalize w5.heap.size = Y at *
            obtain ⟨z0, z1, z2, z3, zf0, zf1, zf2, zf3⟩ := HZ5.out.cells
            obtain ⟨y0, y1, y2, y3, -⟩ := HY6.out.cells
            have n1 : ¬ w.heap.size = Y := by have := HL.out; omega
            have n2 : ¬ Y = w.heap.size := by have := HL.out; omega
            go_region_held3 (fun W => W.cell? ⟨Y, 0, none⟩ = some (.int .u64 (wd S 0)) ∧ W.cell? ⟨Y, 1, none⟩ = some (.int .u64 (wd S 1)) ∧ W.cell? ⟨Y, 2, none⟩ = some (.int .u64 (wd S 2)) ∧ W.cell? ⟨Y, 3, none⟩ = some (.int .u64 (wd S 3))) (go_keep) (fail)
            have HY := Lib.hid (put4_at S (show SetAt W6.drew w.heap.size 0 from HZ5.out))
            have HGG := Lib.hid (grown_trans (drew_grown W6 _) (put4_grown W6.drew w.heap.size S))
            change Exit.then _ _ _ _ (put4 W6.drew w.heap.size S)
            generalize put4 W6.drew w.heap.size S = W2 at *
            obtain ⟨p0, p1, p2, p3, -⟩ := HY.out.cells
            go_wp2_with fail
            (try simp only [Exit.inBlock, Exit.then])
            refine bodyPost_ret (v := .tuple #[.int .i64 (-1), setV S, .int .i64 v, .int .i64 0, .int .i64 0]) (by simp [results, Tryd.results54, go_sem, p0, p1, p2, p3, setV, wv, HVW.out]) rfl ?_
            rw [HS.out]
            simp only [Option.bind_some, HCS.out]
            refine ⟨?_, HB5.out.grown HGG.out HB5.out.size (fun k hk => by have := Option.some.inj hk; omega)⟩
            have e : i + 1 + (nm.length + 3) = v := by have := HTL.out; have := HP.out; have := HV.out; omega
            simp [RItem, e]
        · have HN1 := Lib.hid (HST.out hf)
          have hxy : (iv x == 58) = false ∨ ((iv x = 58) ∧ (iv y == 93) = false) := by
            by_cases e : x = 58
            · exact .inr ⟨by rw [e]; rfl, by simpa using (fun e' => hf ⟨e, iv_inj (b := 93) e'⟩ : ¬ iv y = 93)⟩
            · exact .inl (by simpa using (fun e' => e (iv_inj (b := 58) e') : ¬ iv x = 58))
          clear hf HST HFD
          rcases hxy with hx | ⟨hx, hy⟩
          · go_wp2_with fail
            go_roundw
            case rel => exact ⟨z, rfl, hpj2, hzm, HZZ.out ▸ HN1.out, HSE.out, HB.out⟩
            case measure => simp [intOf]; omega
          · rw [hx] at c0
            clear hx
            go_wp2_with fail
            go_roundw
            case rel => exact ⟨z, rfl, hpj2, hzm, HZZ.out ▸ HN1.out, HSE.out, HB.out⟩
            case measure => simp [intOf]; omega
      · have hz1 : ¬ (j : Int) + 1 < (m : Int) := by omega
        have HE := Lib.hid (nm_end HN.out (by rw [HM.out]; omega))
        obtain ⟨z0, z1, z2, z3, zf0, zf1, zf2, zf3⟩ := HSE.out.cells
        go_wp2_with fail
        have HY := Lib.hid (put4_at 0 HSE.out)
        have HGG := Lib.hid (put4_grown wr w.heap.size 0)
        change bodyPost _ _ _ _ _ (put4 wr w.heap.size 0)
        generalize put4 wr w.heap.size 0 = W2 at *
        obtain ⟨p0, p1, p2, p3, -⟩ := HY.out.cells
        (try simp only [Exit.inBlock, Exit.then])
        refine bodyPost_ret (v := .tuple #[.int .i64 0, setV 0, .int .i64 i, .int .i64 8, .int .i64 i]) (by simp [results, Tryd.results54, go_sem, p0, p1, p2, p3, setV, wv]) rfl ?_
        rw [HS.out, HE.out]
        exact ⟨⟨_, _, rfl⟩, HB.out.grown HGG.out HB.out.size (fun k hk => by have := Option.some.inj hk; omega)⟩
theorem ritem_any (w : World) (a : Option Addr) (m cap i : Nat) (l : List UInt8) (c : UInt8) (t : List UInt8) (hb : HasB w a l) (hm : l.length = m) (ms : m ≤ cap) (cs : cap ≤ 9223372036854775807) (mb : m ≤ 256) (hd : l.drop i = c :: t) :
    Calls Tryd.prog 54 #[.slice a m cap, .int .i64 i, .int .i64 2] w fun e w' => RItem i (itemS c t) e ∧ Below w.heap.size w w' := by
  by_cases h3 : c = 92
  · exact ritem_esc w a m cap i l c t hb hm ms cs mb hd h3
  by_cases h1 : c = 91
  · by_cases h2 : t.head? = some 46 ∨ t.head? = some 61
    · exact ritem_dot w a m cap i l c t hb hm ms cs mb hd h1 h2
    · by_cases h4 : t.head? = some 58
      · exact ritem_cls w a m cap i l c t hb hm ms cs mb hd h1 h4
      · exact ritem_byte w a m cap i l c t hb hm ms cs mb hd (fun h => h2 h.2) (fun h => h4 h.2) h3
  · exact ritem_byte w a m cap i l c t hb hm ms cs mb hd (fun h => h1 h.1) (fun h => h1 h.1) h3
end Go.Proofs.YtafmhhhboihdfaaDoor
