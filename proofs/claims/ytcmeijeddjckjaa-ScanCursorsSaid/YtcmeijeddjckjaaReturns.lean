/-
  The walk of the law ScanReturns. Conditions: those that each theorem names.
-/
import Derived.Test.YtcmeijeddjckjaaCuts
namespace Go.Proofs.Ytcmeijeddjckjaa
open Go.RowKit
set_option linter.unusedVariables false
theorem mod50 (x : Int) : 0 ≤ (wrap64 (x.tmod 50 + 50)).tmod 50 ∧ (wrap64 (x.tmod 50 + 50)).tmod 50 < 50 := by
  have h : -50 < x.tmod 50 ∧ x.tmod 50 < 50 := by
    rcases Int.le_total 0 x with h | h
    · rw [Int.tmod_eq_emod_of_nonneg h]; omega
    · have : x.tmod 50 = -((-x).tmod 50) := by rw [Int.neg_tmod, Int.neg_neg]
      rw [this, Int.tmod_eq_emod_of_nonneg (by omega)]; omega
  rw [IntWalk.wrap64_in _ (by omega), Int.tmod_eq_emod_of_nonneg (by omega)]
  omega
theorem one_byte (w : World) (c : UInt8) (fz : Nat × Nat) : HasB (w.alloc (.cells #[.int .u8 (iv c)] 5 fz)) (some ⟨w.heap.size, 0, none⟩) [c] :=
  cells_all _ 5 fz (heap_alloc_new w _) fun i hi => by
    have : i = 0 := by simp at hi; omega
    subst this; rfl
theorem run_slice_to (a : Option Addr) (n cap m : Nat) (w : World) (hm : m ≤ cap) :
    (Instr.slice 22 (.slice a n cap) none (some (.int .i64 m)) none).run Try.prog w = .ok (.slice (adrop a cap 0) m cap) w := by
  have hu := Try.underlying22
  have hs : ∀ w, (sizeOf 5).run Try.prog w = .ok 1 w := fun w => by kernel_rfl
  simp [Instr.slice, run_underlying hu, Instr.sliceBounds, run_sliceBound, hm, hs, adrop]
theorem back_yes (w : World) (B c : Nat) (l : List UInt8) (k n : Nat) (hn : n ≤ k) (h : Cur w B c l k) :
    Calls Try.prog 34 #[.pointer (some ⟨c, 0, none⟩), .int .i64 n] w fun e w' => e = .returned (.bool true) ∧ Cur w' B c l (k - n) ∧ w.grownBy w' (some c) := by
  have := back_any w B c l k n h
  have hb : bok (n : Int) k = true := by simp only [bok, decide_eq_true_eq]; omega
  rw [hb, if_pos rfl, Int.toNat_natCast] at this
  exact this
theorem back_no (w : World) (B c : Nat) (l : List UInt8) (h : Cur w B c l 0) :
    Calls Try.prog 34 #[.pointer (some ⟨c, 0, none⟩), .int .i64 1] w fun e w' => e = .returned (.bool false) ∧ Cur w' B c l 0 ∧ w.grownBy w' (some c) := by
  have := back_any w B c l 0 1 h
  rw [show bok 1 0 = false from rfl, if_neg (by simp)] at this
  exact this
theorem take_yes (w : World) (B c : Nat) (l : List UInt8) (k : Nat) (t : ByteArray) (h : Cur w B c l k) (ht : t.size ≤ 9223372036854775807) (hp : pre (bl t) (l.drop k) = true) :
    Calls Try.prog 33 #[.pointer (some ⟨c, 0, none⟩), .string t] w fun e w' => e = .returned (.bool true) ∧ Cur w' B c l (k + t.size) ∧ w.grownBy w' (some c) := by
  have := take_any w B c l k t h ht
  rw [hp, if_pos rfl] at this; exact this
theorem take_no (w : World) (B c : Nat) (l : List UInt8) (k : Nat) (t : ByteArray) (h : Cur w B c l k) (ht : t.size ≤ 9223372036854775807) (hp : pre (bl t) (l.drop k) = false) :
    Calls Try.prog 33 #[.pointer (some ⟨c, 0, none⟩), .string t] w fun e w' => e = .returned (.bool false) ∧ Cur w' B c l k ∧ w.grownBy w' (some c) := by
  have := take_any w B c l k t h ht
  rw [hp, if_neg (by simp)] at this; exact this
theorem pre_self (l : List UInt8) : pre l l = true := by rw [pre_eq]; simp
set_option maxRecDepth 100000 in
set_option maxHeartbeats 4000000 in
theorem ScanReturns_walk (a : Option Addr) (cap : Nat) (l : List UInt8) (n0 : Int) (s : ByteArray) (w : World) (hb : HasB w a l) (hlc : l.length ≤ cap) (hr : cap ≤ 140737488351232) (_hn : -9223372036854775808 ≤ n0 ∧ n0 ≤ 9223372036854775807) (hs : s.size ≤ 140737488351232) :
    Calls Try.prog 9 #[.slice a l.length cap, .int .i64 n0, .string s] w fun e w' => e = .returned (.bool true) ∧ Below w.heap.size w w' := by
  have CN := Lib.hid (new_any w a l cap hlc hr hb)
  have HB := Lib.hid hb
  have hll : l.length ≤ 140737488351232 := by omega
  have hm := mod50 n0
  clear hb
  go_enter Try.func9, Try.ntmps9
  go_wp2_with fail
  refine CN.out.mono ?_; rintro e w1 ⟨c, rfl, hcur, hbel, hcw⟩
  have HC1 := Lib.hid hcur
  have HB1 := Lib.hid hbel
  clear hcur hbel
  obtain ⟨B, hBw⟩ : ∃ B, B = w1.heap.size := ⟨_, rfl⟩
  rw [← hBw] at HC1
  have HBW := Lib.hid hBw
  clear hBw
  go_wp2_with fail
  generalize (wrap64 (n0.tmod 50 + 50)).tmod 50 = nn at *
  obtain ⟨m, rfl⟩ := Int.eq_ofNat_of_zero_le hm.1
  go_loopw [8, 21] (fun v i wr => ∃ (j : Nat), j ≤ m ∧ j ≤ l.length ∧ i = .int .i64 j ∧ wr.ownsRow B 5 1 v (l.take j).length (bcells (l.take j)) ∧ Cur wr B c l j ∧ Below w.heap.size w wr) (fun _ i _ => m + 1 - (intOf i).toNat)
  case atStart => exact ⟨0, by omega, by omega, rfl, World.ownsRow_nil _ _ _ _, HC1.out, HB1.out⟩
  case round =>
    obtain ⟨j, hj, hjl, rfl, hown, hcur, hbel⟩ := hrel
    have HO := Lib.hid hown
    have HC := Lib.hid hcur
    have HL := Lib.hid hbel
    have CX := Lib.hid (next_any wr B c l j hcur)
    have hcB : c < B := by obtain ⟨_, _, -, -, -, -, -, -, h7, -⟩ := hcur; exact h7
    have hBr : B ≤ wr.heap.size := by obtain ⟨_, _, -, -, -, -, -, -, -, h8⟩ := hcur; exact h8
    clear hown hcur hbel
    by_cases hlt : j < m ∧ j < l.length
    · obtain ⟨hlt, hlt2⟩ := hlt
      have hjm : (j : Int) < (m : Int) := by omega
      rw [bat_in hlt2, if_pos hlt2, show decide (j < l.length) = true by simpa using hlt2] at CX
      have HTK := Lib.hid (take_snoc l j hlt2)
      generalize hch : l[j] = ch at *
      clear hch
      go_wp2_with fail
      refine CX.out.mono ?_; rintro e w2 ⟨rfl, hc2, hg2⟩
      have hlen1 : (l.take j).length + [ch].length ≤ 140737488351232 := by simp; omega
      have ho2 := HO.out.kept hg2 (by
        rcases hv : u8.ownBlock with _ | g
        · exact .inl rfl
        · right; intro e; have := (HO.out.lt g hv).1; cases e; omega)
      have hB2 : B ≤ w2.heap.size := Nat.le_trans hBr hg2.size
      obtain ⟨v1, w4, hr1, ho1, hg1⟩ := run_app_own (w2.alloc (.cells #[.int .u8 (iv ch)] 5)) B u8 (l.take j) (some ⟨w2.heap.size, 0, none⟩) [ch] 1 (ho2.alloc _) (one_byte w2 ch (0, 0)) hlen1 (by simp; omega)
      have hlt : ∀ g, u8.ownBlock = some g → B ≤ g ∧ g < w2.heap.size := ho2.lt
      have hc4 := (hc2.kept (World.grownBy_alloc w2 (.cells #[.int .u8 (iv ch)] 5) none) (by simp)).kept hg1 (fun r hr => (hlt r hr).1)
      have hwB : w.heap.size ≤ B := Nat.le_trans hcw (Nat.le_of_lt hcB)
      have hb4 : Below w.heap.size w w4 := ((HL.out.grown hg2 HL.out.size (fun r hr => by cases hr; exact hcw)).alloc (Nat.le_trans HL.out.size hg2.size) _).grown hg1 (by simp; omega) (fun r hr => Nat.le_trans hwB (hlt r hr).1)
      rw [← HTK.out] at ho1
      have HR1 := Lib.hid hr1
      have HO4 := Lib.hid ho1
      have HC4 := Lib.hid hc4
      have HB4 := Lib.hid hb4
      clear hr1 ho1 hc4 hb4 hc2 hg2 ho2 hg1 hlt
      go_wp2_with (at_builtin; refine wpList_append_run rfl _ _ _ rfl _ _ _ rfl rfl HR1.out ?_)
      go_roundw
      case rel => exact ⟨j + 1, by omega, by omega, by go_num, HO4.out, HC4.out, HB4.out⟩
      case measure => simp [intOf]; omega
    · rcases (show j = m ∨ (j < m ∧ j = l.length) by omega) with rfl | ⟨hjm, hjl2⟩
      · have HOw := HO; have HCw := HC; have HBw := HL
        clear CX HO HC HL
        have hmin : ¬ ((l.length : Int) < (j : Int)) := by omega
        have hlj : (l.take j).length = j := by simp; omega
        have HJ := Lib.hid hlj
        obtain ⟨ad, cp, rfl, hall⟩ := own_form HOw.out
        rw [hlj]
        clear hlj
        have hbW := HB.out.below HBw.out
        obtain ⟨X, hX⟩ : ∃ X : ByteArray, (⟨(l.take j).toArray⟩ : ByteArray) = X := ⟨_, rfl⟩
        have hcv1 : ∀ n, (convert 22 9 (.slice ad j cp)).run Try.prog (wr.drewN n) = .ok (.string X) (wr.drewN n) := fun n => by
          rw [← hX]; exact conv_str_n _ _ _ _ _ HJ.out (hall.drewN n)
        have hsl : ∀ w, (Instr.slice 22 (.slice a l.length cap) none (some (.int .i64 j)) none).run Try.prog w = .ok (.slice (adrop a cap 0) j cap) w := fun w => run_slice_to a l.length cap j w (by omega)
        have hcv2 : ∀ n, (convert 22 9 (.slice (adrop a cap 0) j cap)).run Try.prog (wr.drewN n) = .ok (.string X) (wr.drewN n) := fun n => by
          rw [← hX]; exact conv_str_n _ _ _ _ _ HJ.out (((hbW.adrop hlc 0).take j).drewN n)
        have HK := Lib.hid (fun n => (HCw.out.kept (drewN_grown wr n none) (by simp)))
        have HKB := Lib.hid (fun n => below_go HBw.out (below_drewN (Below.refl _ _) n))
        clear hall hX hbW HOw HCw HBw
        generalize adrop a cap 0 = a0 at *
        go_wp2_with fail
        go_quiet (fail)
        have hcW := HK.out nq
        have HBn := Lib.hid (HKB.out nq)
        clear hcv1 hcv2 hsl HK HKB
        generalize wr.drewN nq = V at *
        have HCV := Lib.hid hcW
        have CP := Lib.hid (pos_any V B c l j hcW)
        have CTy := Lib.hid (fun h => take_yes V B c l j s hcW (by omega) h)
        have CTn := Lib.hid (fun h => take_no V B c l j s hcW (by omega) h)
        clear hcW
        go_wp2_with fail
        refine CP.out.mono ?_; rintro e w' ⟨rfl, rfl⟩
        go_wp2_with fail
        cases hp : pre (bl s) (l.drop j) with
        | true =>
          have CT := Lib.hid (CTy.out hp)
          clear hp CTy CTn HCV
          refine CT.out.mono ?_; rintro e V2 ⟨rfl, hc2, hg2⟩
          have HV2 := Lib.hid (HBn.out.grown hg2 HBn.out.size (fun r hr => by cases hr; exact hcw))
          have CB0 := Lib.hid (back_yes V2 B c l (j + s.size) s.size (by omega) hc2)
          rw [Nat.add_sub_cancel] at CB0
          clear hc2 hg2 CP HBn
          go_wp2_with fail
          refine CB0.out.mono ?_; rintro e V3 ⟨rfl, hc3, hg3⟩
          have HBn := Lib.hid (HV2.out.grown hg3 HV2.out.size (fun r hr => by cases hr; exact hcw))
          have HCV := Lib.hid hc3
          have CP0 := Lib.hid (pos_any V3 B c l j hc3)
          clear hc3 hg3 HV2 CB0
          go_wp2_with fail
          refine CP0.out.mono ?_; rintro e w' ⟨rfl, rfl⟩
          clear CP0
          have CB := Lib.hid (back_yes V3 B c l j j (Nat.le_refl _) HCV.out)
          go_wp2_with fail
          refine CB.out.mono ?_; rintro e W1 ⟨rfl, hc1, hg1⟩
          rw [Nat.sub_self] at hc1
          have HW1 := Lib.hid (HBn.out.grown hg1 HBn.out.size (fun r hr => by cases hr; exact hcw))
          have CP1 := Lib.hid (pos_any W1 B c l 0 hc1)
          have CN1 := Lib.hid (back_no W1 B c l hc1)
          clear hc1 hg1 CB
          go_wp2_with fail
          refine CP1.out.mono ?_; rintro e w' ⟨rfl, rfl⟩
          go_wp2_with fail
          refine CN1.out.mono ?_; rintro e W2 ⟨rfl, hc2, hg2⟩
          have hW2 := HW1.out.grown hg2 HW1.out.size (fun r hr => by cases hr; exact hcw)
          have HW2 := Lib.hid hW2
          obtain ⟨Y, hY⟩ : ∃ Y : ByteArray, (⟨l.toArray⟩ : ByteArray) = Y := ⟨_, rfl⟩
          have hcv := conv_str W2 a cap l (HB.out.below hW2)
          rw [hY] at hcv
          have hYl : bl Y = l := by rw [← hY, bl_mk]
          have hYz : Y.size = l.length := by rw [← bl_len, hYl]
          have CT2 := Lib.hid (take_yes W2 B c l 0 Y hc2 (by omega) (by rw [hYl]; exact pre_self l))
          rw [hYz, Nat.zero_add] at CT2
          clear hY hYl hYz hc2 hg2 hW2 CP1 CN1 HW1
          go_wp2_with fail
          refine CT2.out.mono ?_; rintro e W3 ⟨rfl, hc3, hg3⟩
          have HW3 := Lib.hid (HW2.out.grown hg3 HW2.out.size (fun r hr => by cases hr; exact hcw))
          have CL := Lib.hid (left_any W3 B c l l.length hc3)
          rw [Int.sub_self] at CL
          clear hcv hc3 hg3 CT2
          go_wp2_with fail
          refine CL.out.mono ?_; rintro e W4 ⟨rfl, n4, rfl⟩
          have HW4 := Lib.hid (below_go HW3.out (below_drewN (Below.refl _ _) n4))
          generalize W3.drewN n4 = W5 at *
          go_wp2_with fail
          refine (awake_any _).mono ?_; rintro e W6 ⟨rfl, hw6⟩
          go_wp2_with fail
          go_ret
          exact ⟨rfl, below_go HW4.out hw6⟩
        | false =>
          have CT := Lib.hid (CTn.out hp)
          clear hp CTy CTn HCV
          refine CT.out.mono ?_; rintro e V2 ⟨rfl, hc2, hg2⟩
          have HBn := Lib.hid (HBn.out.grown hg2 HBn.out.size (fun r hr => by cases hr; exact hcw))
          have HCV := Lib.hid hc2
          clear hc2 hg2 CP
          have CB := Lib.hid (back_yes V2 B c l j j (Nat.le_refl _) HCV.out)
          go_wp2_with fail
          refine CB.out.mono ?_; rintro e W1 ⟨rfl, hc1, hg1⟩
          rw [Nat.sub_self] at hc1
          have HW1 := Lib.hid (HBn.out.grown hg1 HBn.out.size (fun r hr => by cases hr; exact hcw))
          have CP1 := Lib.hid (pos_any W1 B c l 0 hc1)
          have CN1 := Lib.hid (back_no W1 B c l hc1)
          clear hc1 hg1 CB
          go_wp2_with fail
          refine CP1.out.mono ?_; rintro e w' ⟨rfl, rfl⟩
          go_wp2_with fail
          refine CN1.out.mono ?_; rintro e W2 ⟨rfl, hc2, hg2⟩
          have hW2 := HW1.out.grown hg2 HW1.out.size (fun r hr => by cases hr; exact hcw)
          have HW2 := Lib.hid hW2
          obtain ⟨Y, hY⟩ : ∃ Y : ByteArray, (⟨l.toArray⟩ : ByteArray) = Y := ⟨_, rfl⟩
          have hcv := conv_str W2 a cap l (HB.out.below hW2)
          rw [hY] at hcv
          have hYl : bl Y = l := by rw [← hY, bl_mk]
          have hYz : Y.size = l.length := by rw [← bl_len, hYl]
          have CT2 := Lib.hid (take_yes W2 B c l 0 Y hc2 (by omega) (by rw [hYl]; exact pre_self l))
          rw [hYz, Nat.zero_add] at CT2
          clear hY hYl hYz hc2 hg2 hW2 CP1 CN1 HW1
          go_wp2_with fail
          refine CT2.out.mono ?_; rintro e W3 ⟨rfl, hc3, hg3⟩
          have HW3 := Lib.hid (HW2.out.grown hg3 HW2.out.size (fun r hr => by cases hr; exact hcw))
          have CL := Lib.hid (left_any W3 B c l l.length hc3)
          rw [Int.sub_self] at CL
          clear hcv hc3 hg3 CT2
          go_wp2_with fail
          refine CL.out.mono ?_; rintro e W4 ⟨rfl, n4, rfl⟩
          have HW4 := Lib.hid (below_go HW3.out (below_drewN (Below.refl _ _) n4))
          generalize W3.drewN n4 = W5 at *
          go_wp2_with fail
          refine (awake_any _).mono ?_; rintro e W6 ⟨rfl, hw6⟩
          go_wp2_with fail
          go_ret
          exact ⟨rfl, below_go HW4.out hw6⟩
      · have hmin : ((l.length : Int) < (m : Int)) := by omega
        have hjm2 : (j : Int) < (m : Int) := by omega
        have hnl : ¬ j < l.length := by omega
        rw [bat_out hnl, if_neg hnl, show decide (j < l.length) = false by simpa using hnl] at CX
        have HJL := Lib.hid hjl2
        clear hjl2 hnl hlt
        go_wp2_with fail
        refine CX.out.mono ?_; rintro e w2 ⟨rfl, hc2, hg2⟩
        have ho2 := HO.out.kept hg2 (by
          rcases hv : u8.ownBlock with _ | g
          · exact .inl rfl
          · right; intro e; have := (HO.out.lt g hv).1; cases e; omega)
        have HOw := Lib.hid ho2
        have HCw := Lib.hid hc2
        have HBw := Lib.hid (HL.out.grown hg2 HL.out.size (fun r hr => by cases hr; exact hcw))
        have hmin2 : (l.length : Int) = (j : Int) := by have := HJL.out; omega
        clear ho2 hc2 hg2 CX HO HC HL
        have hlj : (l.take j).length = j := by simp; omega
        have HJ := Lib.hid hlj
        obtain ⟨ad, cp, rfl, hall⟩ := own_form HOw.out
        rw [hlj]
        clear hlj
        have hbW := HB.out.below HBw.out
        obtain ⟨X, hX⟩ : ∃ X : ByteArray, (⟨(l.take j).toArray⟩ : ByteArray) = X := ⟨_, rfl⟩
        have hcv1 : ∀ n, (convert 22 9 (.slice ad j cp)).run Try.prog (w2.drewN n) = .ok (.string X) (w2.drewN n) := fun n => by
          rw [← hX]; exact conv_str_n _ _ _ _ _ HJ.out (hall.drewN n)
        have hsl : ∀ w, (Instr.slice 22 (.slice a l.length cap) none (some (.int .i64 j)) none).run Try.prog w = .ok (.slice (adrop a cap 0) j cap) w := fun w => run_slice_to a l.length cap j w (by omega)
        have hcv2 : ∀ n, (convert 22 9 (.slice (adrop a cap 0) j cap)).run Try.prog (w2.drewN n) = .ok (.string X) (w2.drewN n) := fun n => by
          rw [← hX]; exact conv_str_n _ _ _ _ _ HJ.out (((hbW.adrop hlc 0).take j).drewN n)
        have HK := Lib.hid (fun n => (HCw.out.kept (drewN_grown w2 n none) (by simp)))
        have HKB := Lib.hid (fun n => below_go HBw.out (below_drewN (Below.refl _ _) n))
        clear hall hX hbW HOw HCw HBw
        generalize adrop a cap 0 = a0 at *
        go_wp2_with fail
        go_quiet (fail)
        have hcW := HK.out nq
        have HBn := Lib.hid (HKB.out nq)
        clear hcv1 hcv2 hsl HK HKB
        generalize w2.drewN nq = V at *
        have HCV := Lib.hid hcW
        have CP := Lib.hid (pos_any V B c l j hcW)
        have CTy := Lib.hid (fun h => take_yes V B c l j s hcW (by omega) h)
        have CTn := Lib.hid (fun h => take_no V B c l j s hcW (by omega) h)
        clear hcW
        go_wp2_with fail
        refine CP.out.mono ?_; rintro e w' ⟨rfl, rfl⟩
        go_wp2_with fail
        cases hp : pre (bl s) (l.drop j) with
        | true =>
          have CT := Lib.hid (CTy.out hp)
          clear hp CTy CTn HCV
          refine CT.out.mono ?_; rintro e V2 ⟨rfl, hc2, hg2⟩
          have HV2 := Lib.hid (HBn.out.grown hg2 HBn.out.size (fun r hr => by cases hr; exact hcw))
          have CB0 := Lib.hid (back_yes V2 B c l (j + s.size) s.size (by omega) hc2)
          rw [Nat.add_sub_cancel] at CB0
          clear hc2 hg2 CP HBn
          go_wp2_with fail
          refine CB0.out.mono ?_; rintro e V3 ⟨rfl, hc3, hg3⟩
          have HBn := Lib.hid (HV2.out.grown hg3 HV2.out.size (fun r hr => by cases hr; exact hcw))
          have HCV := Lib.hid hc3
          have CP0 := Lib.hid (pos_any V3 B c l j hc3)
          clear hc3 hg3 HV2 CB0
          go_wp2_with fail
          refine CP0.out.mono ?_; rintro e w' ⟨rfl, rfl⟩
          clear CP0
          have CB := Lib.hid (back_yes V3 B c l j j (Nat.le_refl _) HCV.out)
          go_wp2_with fail
          refine CB.out.mono ?_; rintro e W1 ⟨rfl, hc1, hg1⟩
          rw [Nat.sub_self] at hc1
          have HW1 := Lib.hid (HBn.out.grown hg1 HBn.out.size (fun r hr => by cases hr; exact hcw))
          have CP1 := Lib.hid (pos_any W1 B c l 0 hc1)
          have CN1 := Lib.hid (back_no W1 B c l hc1)
          clear hc1 hg1 CB
          go_wp2_with fail
          refine CP1.out.mono ?_; rintro e w' ⟨rfl, rfl⟩
          go_wp2_with fail
          refine CN1.out.mono ?_; rintro e W2 ⟨rfl, hc2, hg2⟩
          have hW2 := HW1.out.grown hg2 HW1.out.size (fun r hr => by cases hr; exact hcw)
          have HW2 := Lib.hid hW2
          obtain ⟨Y, hY⟩ : ∃ Y : ByteArray, (⟨l.toArray⟩ : ByteArray) = Y := ⟨_, rfl⟩
          have hcv := conv_str W2 a cap l (HB.out.below hW2)
          rw [hY] at hcv
          have hYl : bl Y = l := by rw [← hY, bl_mk]
          have hYz : Y.size = l.length := by rw [← bl_len, hYl]
          have CT2 := Lib.hid (take_yes W2 B c l 0 Y hc2 (by omega) (by rw [hYl]; exact pre_self l))
          rw [hYz, Nat.zero_add] at CT2
          clear hY hYl hYz hc2 hg2 hW2 CP1 CN1 HW1
          go_wp2_with fail
          refine CT2.out.mono ?_; rintro e W3 ⟨rfl, hc3, hg3⟩
          have HW3 := Lib.hid (HW2.out.grown hg3 HW2.out.size (fun r hr => by cases hr; exact hcw))
          have CL := Lib.hid (left_any W3 B c l l.length hc3)
          rw [Int.sub_self] at CL
          clear hcv hc3 hg3 CT2
          go_wp2_with fail
          refine CL.out.mono ?_; rintro e W4 ⟨rfl, n4, rfl⟩
          have HW4 := Lib.hid (below_go HW3.out (below_drewN (Below.refl _ _) n4))
          generalize W3.drewN n4 = W5 at *
          go_wp2_with fail
          refine (awake_any _).mono ?_; rintro e W6 ⟨rfl, hw6⟩
          go_wp2_with fail
          go_ret
          exact ⟨rfl, below_go HW4.out hw6⟩
        | false =>
          have CT := Lib.hid (CTn.out hp)
          clear hp CTy CTn HCV
          refine CT.out.mono ?_; rintro e V2 ⟨rfl, hc2, hg2⟩
          have HBn := Lib.hid (HBn.out.grown hg2 HBn.out.size (fun r hr => by cases hr; exact hcw))
          have HCV := Lib.hid hc2
          clear hc2 hg2 CP
          have CB := Lib.hid (back_yes V2 B c l j j (Nat.le_refl _) HCV.out)
          go_wp2_with fail
          refine CB.out.mono ?_; rintro e W1 ⟨rfl, hc1, hg1⟩
          rw [Nat.sub_self] at hc1
          have HW1 := Lib.hid (HBn.out.grown hg1 HBn.out.size (fun r hr => by cases hr; exact hcw))
          have CP1 := Lib.hid (pos_any W1 B c l 0 hc1)
          have CN1 := Lib.hid (back_no W1 B c l hc1)
          clear hc1 hg1 CB
          go_wp2_with fail
          refine CP1.out.mono ?_; rintro e w' ⟨rfl, rfl⟩
          go_wp2_with fail
          refine CN1.out.mono ?_; rintro e W2 ⟨rfl, hc2, hg2⟩
          have hW2 := HW1.out.grown hg2 HW1.out.size (fun r hr => by cases hr; exact hcw)
          have HW2 := Lib.hid hW2
          obtain ⟨Y, hY⟩ : ∃ Y : ByteArray, (⟨l.toArray⟩ : ByteArray) = Y := ⟨_, rfl⟩
          have hcv := conv_str W2 a cap l (HB.out.below hW2)
          rw [hY] at hcv
          have hYl : bl Y = l := by rw [← hY, bl_mk]
          have hYz : Y.size = l.length := by rw [← bl_len, hYl]
          have CT2 := Lib.hid (take_yes W2 B c l 0 Y hc2 (by omega) (by rw [hYl]; exact pre_self l))
          rw [hYz, Nat.zero_add] at CT2
          clear hY hYl hYz hc2 hg2 hW2 CP1 CN1 HW1
          go_wp2_with fail
          refine CT2.out.mono ?_; rintro e W3 ⟨rfl, hc3, hg3⟩
          have HW3 := Lib.hid (HW2.out.grown hg3 HW2.out.size (fun r hr => by cases hr; exact hcw))
          have CL := Lib.hid (left_any W3 B c l l.length hc3)
          rw [Int.sub_self] at CL
          clear hcv hc3 hg3 CT2
          go_wp2_with fail
          refine CL.out.mono ?_; rintro e W4 ⟨rfl, n4, rfl⟩
          have HW4 := Lib.hid (below_go HW3.out (below_drewN (Below.refl _ _) n4))
          generalize W3.drewN n4 = W5 at *
          go_wp2_with fail
          refine (awake_any _).mono ?_; rintro e W6 ⟨rfl, hw6⟩
          go_wp2_with fail
          go_ret
          exact ⟨rfl, below_go HW4.out hw6⟩
end Go.Proofs.Ytcmeijeddjckjaa
