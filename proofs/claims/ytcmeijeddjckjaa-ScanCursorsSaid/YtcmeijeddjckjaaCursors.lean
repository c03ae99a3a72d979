/-
  The walk of the law ScanCursors. Conditions: those that each theorem names.
-/
import Derived.Test.YtcmeijeddjckjaaReturns
import Derived.Deep.RegionHeld3
import Derived.Deep.RegionWith
namespace Go.Proofs.Ytcmeijeddjckjaa
open Go.RowKit
set_option linter.unusedVariables false
/-- a step: what to do, a number, a text -/
def stepOk (x : Int × Int × ByteArray) : Prop := -9223372036854775808 ≤ x.1 ∧ x.1 ≤ 9223372036854775807 ∧ -9223372036854775808 ≤ x.2.1 ∧ x.2.1 ≤ 9223372036854775807 ∧ x.2.2.size ≤ 9223372036854775807
def HasS (w : World) (a : Option Addr) (st : List (Int × Int × ByteArray)) : Prop :=
  st = [] ∨ ∃ b off, a = some ⟨b, off, none⟩ ∧ b < w.heap.size ∧ ∀ i (h : i < st.length), w.cell? ⟨b, off + i * 3, none⟩ = some (.int .i64 st[i].1) ∧ w.cell? ⟨b, off + i * 3 + 1, none⟩ = some (.int .i64 st[i].2.1) ∧ w.cell? ⟨b, off + i * 3 + 2, none⟩ = some (.string st[i].2.2) ∧ stepOk st[i]
theorem bytes_n (w : World) (a1 a2 : Option Addr) (l1 l2 : List UInt8) (n1 n2 c1 c2 : Nat) (hn1 : l1.length = n1) (hn2 : l2.length = n2) (h1 : HasB w a1 l1) (h2 : HasB w a2 l2) :
    Calls Try.prog 30 #[.slice a1 n1 c1, .slice a2 n2 c2] w fun e w' => e = .returned (.bool (l1 == l2)) ∧ w = w' := by
  subst hn1; subst hn2; exact bytes_any w a1 a2 l1 l2 c1 c2 h1 h2
theorem both_any (among : Bool) (w : World) (B c S : Nat) (l : List UInt8) (k q : Nat) (s : ByteArray) (h : Cur w B c l k) (hs : s.size ≤ 9223372036854775807) (hS : S ≠ c) (hSw : w.cell? ⟨S, 2, none⟩ = some (.string s))
    (hp : piece (bl s) among (l.drop k) = (l.drop k).take q) (hq : k + q ≤ l.length) :
    Calls Try.prog (if among then 26 else 27) #[.pointer (some ⟨c, 0, none⟩), .string s] w fun e w' => ∃ a' cap', e = .returned (.slice a' q cap') ∧
      HasB w' a' ((l.drop k).take q) ∧ Cur w' B c l (k + q) ∧ w.grownBy w' (some c) ∧ w'.cell? ⟨S, 2, none⟩ = some (.string s) := by
  have hlen : ((l.drop k).take q).length = q := by simp; omega
  have key : ∀ f, Calls Try.prog f #[.pointer (some ⟨c, 0, none⟩), .string s] w (fun e w' => ∃ a' cap', e = .returned (.slice a' (piece (bl s) among (l.drop k)).length cap') ∧
      OwnB w' w.heap.size a' (piece (bl s) among (l.drop k)) ∧ Cur w' B c l (k + (piece (bl s) among (l.drop k)).length) ∧ w.grownBy w' (some c)) →
      Calls Try.prog f #[.pointer (some ⟨c, 0, none⟩), .string s] w (fun e w' => ∃ a' cap', e = .returned (.slice a' q cap') ∧
      HasB w' a' ((l.drop k).take q) ∧ Cur w' B c l (k + q) ∧ w.grownBy w' (some c) ∧ w'.cell? ⟨S, 2, none⟩ = some (.string s)) := by
    intro f hf
    refine hf.mono fun e w' ⟨a', cap', h1, h2, h3, h4⟩ => ?_
    rw [hp, hlen] at h1 h3
    rw [hp] at h2
    exact ⟨a', cap', h1, h2.has, h3, h4, h4.cell hSw (fun e => hS (Option.some.inj e))⟩
  cases among
  · exact key 27 (until_any w B c l k s h hs)
  · exact key 26 (while_any w B c l k s h hs)
set_option maxRecDepth 100000 in
set_option maxHeartbeats 16000000 in
theorem ScanCursors_walk (a : Option Addr) (cap : Nat) (l : List UInt8) (a2 : Option Addr) (cap2 : Nat) (st : List (Int × Int × ByteArray)) (w : World) (hb : HasB w a l) (hlc : l.length ≤ cap) (hr : cap ≤ 140737488351232) (hst : HasS w a2 st) (hsl : st.length ≤ 140737488351232) :
    Calls Try.prog 11 #[.slice a l.length cap, .slice a2 st.length cap2] w fun e w' => e = .returned (.bool true) ∧ Below w.heap.size w w' := by
  have CN := Lib.hid (new_any w a l cap hlc hr hb)
  have HB := Lib.hid hb
  have HS := Lib.hid hst
  have hll : l.length ≤ 140737488351232 := by omega
  clear hb hst
  go_enter Try.func11, Try.ntmps11
  go_wp2_with fail
  refine CN.out.mono ?_; rintro e w1 ⟨c, rfl, hcur, hbel, hcw⟩
  have HC1 := Lib.hid hcur
  have HB1 := Lib.hid hbel
  clear hcur hbel
  obtain ⟨B, hBw⟩ : ∃ B, B = w1.heap.size := ⟨_, rfl⟩
  rw [← hBw] at HC1
  have HBW := Lib.hid hBw
  clear hBw
  go_wp2_with fail
  go_loopw [6, 7] (fun p i wr => ∃ (k n : Nat), n ≤ st.length ∧ n ≤ 100 ∧ k ≤ l.length ∧ p = .int .i64 k ∧ i = .int .i64 n ∧ Cur wr B c l k ∧ Below w.heap.size w wr) (fun _ i _ => 100 - (intOf i).toNat)
  case atStart => exact ⟨0, 0, by omega, by omega, by omega, rfl, rfl, HC1.out, HB1.out⟩
  case round =>
    obtain ⟨k, n, hn, hn1, hk, rfl, rfl, hcur, hbel⟩ := hrel
    have HC := Lib.hid hcur
    have HL := Lib.hid hbel
    clear hcur
    by_cases hlt : n < st.length ∧ n < 100
    · obtain ⟨hlt1, hlt2⟩ := hlt
      have hlt3 : (n : Int) < (st.length : Int) := by omega
      have hlt4 : (n : Int) < 100 := by omega
      rcases HS.out with hS | ⟨b, off, rfl, hbs, hcs⟩
      · rw [hS] at hlt1; simp at hlt1
      obtain ⟨q0, q1, q2, ⟨b1, b2, b3, b4, b5⟩⟩ := hcs n hlt1
      have hq : ∀ o, wr.cell? ⟨b, o, none⟩ = w.cell? ⟨b, o, none⟩ := fun o => hbel.cell (p := ⟨b, o, none⟩) hbs
      rw [← hq] at q0 q1 q2
      clear hq hcs hbel HS
      generalize st[n] = x at *
      obtain ⟨dd, nn, tx⟩ := x
      simp only at q0 q1 q2 b1 b2 b3 b4 b5
      rcases (show dd = 0 ∨ dd = 1 ∨ dd = 2 ∨ dd = 3 ∨ (dd < 0 ∨ 3 < dd) by omega) with rfl | rfl | rfl | rfl | hdd
      · as_aux_lemma =>
        by_cases hkl : k < l.length
        · as_aux_lemma =>
          obtain ⟨ba, oa, rfl, hba, hca⟩ := HB.out.at hkl
          have hck := hca k hkl
          have hdk : decide (k < l.length) = true := by simpa using hkl
          have hkI : (k : Int) < (l.length : Int) := by omega
          have HX0 := iv_lo l[k]
          have HX1 := iv_hi l[k]
          go_wp2_with fail
          have hC0 := HC.out.kept (World.grownBy_alloc wr (.cells #[.int .i64 0, .int .i64 nn, .string tx] 53) none) (by simp)
          have hL0 := HL.out.alloc HL.out.size (.cells #[.int .i64 0, .int .i64 nn, .string tx] 53)
          have hS0 := heap_alloc_new wr (.cells #[.int .i64 0, .int .i64 nn, .string tx] 53)
          have hSc : wr.heap.size ≠ c := by
            obtain ⟨_, _, -, -, -, -, -, -, h7, h8⟩ := HC.out
            omega
          generalize wr.heap.size = S at *
          have CPK := Lib.hid (peek_any _ B c l k hC0)
          have CNX := Lib.hid (fun m => next_any _ B c l k (hC0.kept (drewN_grown _ m none) (by simp)))
          rw [bat_in hkl, hdk] at CPK
          rw [bat_in hkl, hdk, if_pos hkl] at CNX
          generalize iv l[k] = z at *
          generalize wr.alloc (Obj.cells #[Value.int .i64 0, .int .i64 nn, .string tx] 53) = W0 at *
          have c0 : ∀ m, (W0.drewN m).cell? ⟨S, 0, none⟩ = some (.int .i64 0) := fun m => by show W0.cell? _ = _; rw [World.cell?, hS0]; rfl
          have HS0 := Lib.hid hS0
          have HL0 := Lib.hid hL0
          clear hC0 hS0 hL0 hdk
          refine CPK.out.mono ?_; rintro e w' ⟨rfl, m, rfl⟩
          have c0m := c0 m
          have CNX2 := Lib.hid (CNX.out m)
          clear c0 CNX
          go_wp2_with fail
          refine CNX2.out.mono ?_; rintro e W2 ⟨rfl, hc2, hg2⟩
          have hL2 := (below_go HL0.out (below_drewN (Below.refl _ _) m)).grown hg2 (by have := HL0.out.size; exact this) (fun r hr => by cases hr; exact hcw)
          have hS2 : W2.heap[S]? = _ := (hg2.block S (Array.getElem?_eq_some_iff.1 HS0.out).1 (fun e => hSc (Option.some.inj e))).trans HS0.out
          have c2 : W2.cell? ⟨S, 0, none⟩ = some (.int .i64 0) := by rw [World.cell?, hS2]; rfl
          have ck2 : W2.cell? ⟨ba, oa + k, none⟩ = some (.int .u8 z) := (hL2.cell (p := ⟨ba, oa + k, none⟩) hba).trans hck
          clear hS2 hg2 hck hca
          have CP := Lib.hid (pos_any W2 B c l (k + 1) hc2)
          have CLF := Lib.hid (left_any W2 B c l (k + 1) hc2)
          rw [show (((k + 1 : Nat)) : Int) = (k : Int) + 1 by omega] at CP CLF
          have HCF := Lib.hid hc2
          have HLF := Lib.hid hL2
          have hKF : (0 : Int) ≤ (k : Int) + 1 ∧ (k : Int) + 1 ≤ (l.length : Int) := by have : k + 1 ≤ l.length := by { obtain ⟨_, _, -, -, h3, -⟩ := hc2; exact h3 }; omega
          clear hc2 hL2
          go_wp2_with fail
          refine CP.out.mono ?_; rintro e w' ⟨rfl, rfl⟩
          go_wp2_with fail
          refine CLF.out.mono ?_; rintro e w' ⟨rfl, nF, rfl⟩
          have HCG := Lib.hid (HCF.out.kept (drewN_grown W2 nF none) (by simp))
          have HLG := Lib.hid (below_go HLF.out (below_drewN (Below.refl _ _) nF))
          generalize W2.drewN nF = WF at *
          go_wp2_with fail
          go_roundw
          case rel => exact ⟨k + 1, n + 1, by omega, by omega, by omega, congrArg (Value.int .i64) (by omega), by go_num, HCG.out, HLG.out⟩
          case measure => simp [intOf]; omega
        · as_aux_lemma =>
          have hdk : decide (k < l.length) = false := by simpa using hkl
          have hkI : ¬ (k : Int) < (l.length : Int) := by omega
          go_wp2_with fail
          have hC0 := HC.out.kept (World.grownBy_alloc wr (.cells #[.int .i64 0, .int .i64 nn, .string tx] 53) none) (by simp)
          have hL0 := HL.out.alloc HL.out.size (.cells #[.int .i64 0, .int .i64 nn, .string tx] 53)
          have hS0 := heap_alloc_new wr (.cells #[.int .i64 0, .int .i64 nn, .string tx] 53)
          have hSc : wr.heap.size ≠ c := by
            obtain ⟨_, _, -, -, -, -, -, -, h7, h8⟩ := HC.out
            omega
          generalize wr.heap.size = S at *
          have CPK := Lib.hid (peek_any _ B c l k hC0)
          have CNX := Lib.hid (fun m => next_any _ B c l k (hC0.kept (drewN_grown _ m none) (by simp)))
          rw [bat_out hkl, hdk] at CPK
          rw [bat_out hkl, hdk, if_neg hkl] at CNX
          generalize wr.alloc (Obj.cells #[Value.int .i64 0, .int .i64 nn, .string tx] 53) = W0 at *
          have c0 : ∀ m, (W0.drewN m).cell? ⟨S, 0, none⟩ = some (.int .i64 0) := fun m => by show W0.cell? _ = _; rw [World.cell?, hS0]; rfl
          have HS0 := Lib.hid hS0
          have HL0 := Lib.hid hL0
          clear hC0 hS0 hL0 hdk
          refine CPK.out.mono ?_; rintro e w' ⟨rfl, m, rfl⟩
          have c0m := c0 m
          have CNX2 := Lib.hid (CNX.out m)
          clear c0 CNX
          go_wp2_with fail
          refine CNX2.out.mono ?_; rintro e W2 ⟨rfl, hc2, hg2⟩
          have hL2 := (below_go HL0.out (below_drewN (Below.refl _ _) m)).grown hg2 (by have := HL0.out.size; exact this) (fun r hr => by cases hr; exact hcw)
          have hS2 : W2.heap[S]? = _ := (hg2.block S (Array.getElem?_eq_some_iff.1 HS0.out).1 (fun e => hSc (Option.some.inj e))).trans HS0.out
          have c2 : W2.cell? ⟨S, 0, none⟩ = some (.int .i64 0) := by rw [World.cell?, hS2]; rfl
          clear hS2 hg2
          have CP := Lib.hid (pos_any W2 B c l (k) hc2)
          have CLF := Lib.hid (left_any W2 B c l (k) hc2)
          rw [show (((k : Nat)) : Int) = (k : Int) by omega] at CP CLF
          have HCF := Lib.hid hc2
          have HLF := Lib.hid hL2
          have hKF : (0 : Int) ≤ (k : Int) ∧ (k : Int) ≤ (l.length : Int) := by have : k ≤ l.length := by { obtain ⟨_, _, -, -, h3, -⟩ := hc2; exact h3 }; omega
          clear hc2 hL2
          go_wp2_with fail
          refine CP.out.mono ?_; rintro e w' ⟨rfl, rfl⟩
          go_wp2_with fail
          refine CLF.out.mono ?_; rintro e w' ⟨rfl, nF, rfl⟩
          have HCG := Lib.hid (HCF.out.kept (drewN_grown W2 nF none) (by simp))
          have HLG := Lib.hid (below_go HLF.out (below_drewN (Below.refl _ _) nF))
          generalize W2.drewN nF = WF at *
          go_wp2_with fail
          go_roundw
          case rel => exact ⟨k, n + 1, by omega, by omega, by omega, congrArg (Value.int .i64) (by omega), by go_num, HCG.out, HLG.out⟩
          case measure => simp [intOf]; omega
      · as_aux_lemma =>
        by_cases hkl : k < l.length
        · as_aux_lemma =>
          obtain ⟨ba, oa, rfl, hba, hca⟩ := HB.out.at hkl
          have hck := hca k hkl
          have hdk : decide (k < l.length) = true := by simpa using hkl
          have hkI : (k : Int) < (l.length : Int) := by omega
          have HX0 := iv_lo l[k]
          have HX1 := iv_hi l[k]
          go_wp2_with fail
          have hC0 := HC.out.kept (World.grownBy_alloc wr (.cells #[.int .i64 1, .int .i64 nn, .string tx] 53) none) (by simp)
          have hL0 := HL.out.alloc HL.out.size (.cells #[.int .i64 1, .int .i64 nn, .string tx] 53)
          have hS0 := heap_alloc_new wr (.cells #[.int .i64 1, .int .i64 nn, .string tx] 53)
          have hSc : wr.heap.size ≠ c := by
            obtain ⟨_, _, -, -, -, -, -, -, h7, h8⟩ := HC.out
            omega
          generalize wr.heap.size = S at *
          have CPK := Lib.hid (peek_any _ B c l k hC0)
          rw [bat_in hkl, hdk] at CPK
          generalize iv l[k] = z at *
          generalize wr.alloc (Obj.cells #[Value.int .i64 1, .int .i64 nn, .string tx] 53) = W0 at *
          have c0 : ∀ m, (W0.drewN m).cell? ⟨S, 0, none⟩ = some (.int .i64 1) := fun m => by show W0.cell? _ = _; rw [World.cell?, hS0]; rfl
          have ck0 : ∀ m, (W0.drewN m).cell? ⟨ba, oa + k, none⟩ = some (.int .u8 z) := fun m => (hL0.cell (p := ⟨ba, oa + k, none⟩) hba).trans hck
          have HK := Lib.hid (fun m => hC0.kept (drewN_grown W0 m none) (by simp))
          have HKL := Lib.hid (fun m => below_go hL0 (below_drewN (Below.refl _ _) m))
          clear hC0 hS0 hL0 hdk hca hck
          refine CPK.out.mono ?_; rintro e w' ⟨rfl, m, rfl⟩
          have c0m := c0 m
          have ck0m := ck0 m
          have hc2 := HK.out m
          have hL2 := HKL.out m
          clear c0 ck0
          generalize W0.drewN m = W2 at *
          have CP := Lib.hid (pos_any W2 B c l (k) hc2)
          have CLF := Lib.hid (left_any W2 B c l (k) hc2)
          rw [show (((k : Nat)) : Int) = (k : Int) by omega] at CP CLF
          have HCF := Lib.hid hc2
          have HLF := Lib.hid hL2
          have hKF : (0 : Int) ≤ (k : Int) ∧ (k : Int) ≤ (l.length : Int) := by have : k ≤ l.length := by { obtain ⟨_, _, -, -, h3, -⟩ := hc2; exact h3 }; omega
          clear hc2 hL2
          go_wp2_with fail
          refine CP.out.mono ?_; rintro e w' ⟨rfl, rfl⟩
          go_wp2_with fail
          refine CLF.out.mono ?_; rintro e w' ⟨rfl, nF, rfl⟩
          have HCG := Lib.hid (HCF.out.kept (drewN_grown W2 nF none) (by simp))
          have HLG := Lib.hid (below_go HLF.out (below_drewN (Below.refl _ _) nF))
          generalize W2.drewN nF = WF at *
          go_wp2_with fail
          go_roundw
          case rel => exact ⟨k, n + 1, by omega, by omega, by omega, congrArg (Value.int .i64) (by omega), by go_num, HCG.out, HLG.out⟩
          case measure => simp [intOf]; omega
        · as_aux_lemma =>
          have hdk : decide (k < l.length) = false := by simpa using hkl
          have hkI : ¬ (k : Int) < (l.length : Int) := by omega
          go_wp2_with fail
          have hC0 := HC.out.kept (World.grownBy_alloc wr (.cells #[.int .i64 1, .int .i64 nn, .string tx] 53) none) (by simp)
          have hL0 := HL.out.alloc HL.out.size (.cells #[.int .i64 1, .int .i64 nn, .string tx] 53)
          have hS0 := heap_alloc_new wr (.cells #[.int .i64 1, .int .i64 nn, .string tx] 53)
          have hSc : wr.heap.size ≠ c := by
            obtain ⟨_, _, -, -, -, -, -, -, h7, h8⟩ := HC.out
            omega
          generalize wr.heap.size = S at *
          have CPK := Lib.hid (peek_any _ B c l k hC0)
          rw [bat_out hkl, hdk] at CPK
          generalize wr.alloc (Obj.cells #[Value.int .i64 1, .int .i64 nn, .string tx] 53) = W0 at *
          have c0 : ∀ m, (W0.drewN m).cell? ⟨S, 0, none⟩ = some (.int .i64 1) := fun m => by show W0.cell? _ = _; rw [World.cell?, hS0]; rfl
          have HK := Lib.hid (fun m => hC0.kept (drewN_grown W0 m none) (by simp))
          have HKL := Lib.hid (fun m => below_go hL0 (below_drewN (Below.refl _ _) m))
          clear hC0 hS0 hL0 hdk
          refine CPK.out.mono ?_; rintro e w' ⟨rfl, m, rfl⟩
          have c0m := c0 m
          have hc2 := HK.out m
          have hL2 := HKL.out m
          clear c0
          generalize W0.drewN m = W2 at *
          have CP := Lib.hid (pos_any W2 B c l (k) hc2)
          have CLF := Lib.hid (left_any W2 B c l (k) hc2)
          rw [show (((k : Nat)) : Int) = (k : Int) by omega] at CP CLF
          have HCF := Lib.hid hc2
          have HLF := Lib.hid hL2
          have hKF : (0 : Int) ≤ (k : Int) ∧ (k : Int) ≤ (l.length : Int) := by have : k ≤ l.length := by { obtain ⟨_, _, -, -, h3, -⟩ := hc2; exact h3 }; omega
          clear hc2 hL2
          go_wp2_with fail
          refine CP.out.mono ?_; rintro e w' ⟨rfl, rfl⟩
          go_wp2_with fail
          refine CLF.out.mono ?_; rintro e w' ⟨rfl, nF, rfl⟩
          have HCG := Lib.hid (HCF.out.kept (drewN_grown W2 nF none) (by simp))
          have HLG := Lib.hid (below_go HLF.out (below_drewN (Below.refl _ _) nF))
          generalize W2.drewN nF = WF at *
          go_wp2_with fail
          go_roundw
          case rel => exact ⟨k, n + 1, by omega, by omega, by omega, congrArg (Value.int .i64) (by omega), by go_num, HCG.out, HLG.out⟩
          case measure => simp [intOf]; omega
      · as_aux_lemma =>
        rcases (show nn < 0 ∨ (0 ≤ nn ∧ (k : Int) < nn) ∨ (0 ≤ nn ∧ nn ≤ k) by omega) with hn2 | hn2 | hn2
        · as_aux_lemma =>
          go_wp2_with fail
          have hC0 := HC.out.kept (World.grownBy_alloc wr (.cells #[.int .i64 2, .int .i64 nn, .string tx] 53) none) (by simp)
          have hL0 := HL.out.alloc HL.out.size (.cells #[.int .i64 2, .int .i64 nn, .string tx] 53)
          have hS0 := heap_alloc_new wr (.cells #[.int .i64 2, .int .i64 nn, .string tx] 53)
          have hSc : wr.heap.size ≠ c := by
            obtain ⟨_, _, -, -, -, -, -, -, h7, h8⟩ := HC.out
            omega
          generalize wr.heap.size = S at *
          have CBK := Lib.hid (back_any _ B c l k nn hC0)
          rw [show bok nn k = false by simp only [bok, decide_eq_false_iff_not]; omega, if_neg (by simp)] at CBK
          generalize wr.alloc (Obj.cells #[Value.int .i64 2, .int .i64 nn, .string tx] 53) = W0 at *
          have c1 : W0.cell? ⟨S, 1, none⟩ = some (.int .i64 nn) := by rw [World.cell?, hS0]; rfl
          have HS0 := Lib.hid hS0
          have HL0 := Lib.hid hL0
          clear hC0 hS0 hL0
          refine CBK.out.mono ?_; rintro e W2 ⟨rfl, hc2, hg2⟩
          have hL2 := HL0.out.grown hg2 HL0.out.size (fun r hr => by cases hr; exact hcw)
          have hS2 : W2.heap[S]? = _ := (hg2.block S (Array.getElem?_eq_some_iff.1 HS0.out).1 (fun e => hSc (Option.some.inj e))).trans HS0.out
          have c2 : W2.cell? ⟨S, 1, none⟩ = some (.int .i64 nn) := by rw [World.cell?, hS2]; rfl
          clear hS2 hg2
          have CP := Lib.hid (pos_any W2 B c l (k) hc2)
          have CLF := Lib.hid (left_any W2 B c l (k) hc2)
          rw [show (((k : Nat)) : Int) = (k : Int) by omega] at CP CLF
          have HCF := Lib.hid hc2
          have HLF := Lib.hid hL2
          have hKF : (0 : Int) ≤ (k : Int) ∧ (k : Int) ≤ (l.length : Int) := by have : k ≤ l.length := by { obtain ⟨_, _, -, -, h3, -⟩ := hc2; exact h3 }; omega
          clear hc2 hL2
          go_wp2_with fail
          refine CP.out.mono ?_; rintro e w' ⟨rfl, rfl⟩
          go_wp2_with fail
          refine CLF.out.mono ?_; rintro e w' ⟨rfl, nF, rfl⟩
          have HCG := Lib.hid (HCF.out.kept (drewN_grown W2 nF none) (by simp))
          have HLG := Lib.hid (below_go HLF.out (below_drewN (Below.refl _ _) nF))
          generalize W2.drewN nF = WF at *
          go_wp2_with fail
          go_roundw
          case rel => exact ⟨k, n + 1, by omega, by omega, by omega, congrArg (Value.int .i64) (by omega), by go_num, HCG.out, HLG.out⟩
          case measure => simp [intOf]; omega
        · as_aux_lemma =>
          go_wp2_with fail
          have hC0 := HC.out.kept (World.grownBy_alloc wr (.cells #[.int .i64 2, .int .i64 nn, .string tx] 53) none) (by simp)
          have hL0 := HL.out.alloc HL.out.size (.cells #[.int .i64 2, .int .i64 nn, .string tx] 53)
          have hS0 := heap_alloc_new wr (.cells #[.int .i64 2, .int .i64 nn, .string tx] 53)
          have hSc : wr.heap.size ≠ c := by
            obtain ⟨_, _, -, -, -, -, -, -, h7, h8⟩ := HC.out
            omega
          generalize wr.heap.size = S at *
          have CBK := Lib.hid (back_any _ B c l k nn hC0)
          rw [show bok nn k = false by simp only [bok, decide_eq_false_iff_not]; omega, if_neg (by simp)] at CBK
          generalize wr.alloc (Obj.cells #[Value.int .i64 2, .int .i64 nn, .string tx] 53) = W0 at *
          have c1 : W0.cell? ⟨S, 1, none⟩ = some (.int .i64 nn) := by rw [World.cell?, hS0]; rfl
          have HS0 := Lib.hid hS0
          have HL0 := Lib.hid hL0
          clear hC0 hS0 hL0
          refine CBK.out.mono ?_; rintro e W2 ⟨rfl, hc2, hg2⟩
          have hL2 := HL0.out.grown hg2 HL0.out.size (fun r hr => by cases hr; exact hcw)
          have hS2 : W2.heap[S]? = _ := (hg2.block S (Array.getElem?_eq_some_iff.1 HS0.out).1 (fun e => hSc (Option.some.inj e))).trans HS0.out
          have c2 : W2.cell? ⟨S, 1, none⟩ = some (.int .i64 nn) := by rw [World.cell?, hS2]; rfl
          clear hS2 hg2
          have CP := Lib.hid (pos_any W2 B c l (k) hc2)
          have CLF := Lib.hid (left_any W2 B c l (k) hc2)
          rw [show (((k : Nat)) : Int) = (k : Int) by omega] at CP CLF
          have HCF := Lib.hid hc2
          have HLF := Lib.hid hL2
          have hKF : (0 : Int) ≤ (k : Int) ∧ (k : Int) ≤ (l.length : Int) := by have : k ≤ l.length := by { obtain ⟨_, _, -, -, h3, -⟩ := hc2; exact h3 }; omega
          clear hc2 hL2
          go_wp2_with fail
          refine CP.out.mono ?_; rintro e w' ⟨rfl, rfl⟩
          go_wp2_with fail
          refine CLF.out.mono ?_; rintro e w' ⟨rfl, nF, rfl⟩
          have HCG := Lib.hid (HCF.out.kept (drewN_grown W2 nF none) (by simp))
          have HLG := Lib.hid (below_go HLF.out (below_drewN (Below.refl _ _) nF))
          generalize W2.drewN nF = WF at *
          go_wp2_with fail
          go_roundw
          case rel => exact ⟨k, n + 1, by omega, by omega, by omega, congrArg (Value.int .i64) (by omega), by go_num, HCG.out, HLG.out⟩
          case measure => simp [intOf]; omega
        · as_aux_lemma =>
          go_wp2_with fail
          have hC0 := HC.out.kept (World.grownBy_alloc wr (.cells #[.int .i64 2, .int .i64 nn, .string tx] 53) none) (by simp)
          have hL0 := HL.out.alloc HL.out.size (.cells #[.int .i64 2, .int .i64 nn, .string tx] 53)
          have hS0 := heap_alloc_new wr (.cells #[.int .i64 2, .int .i64 nn, .string tx] 53)
          have hSc : wr.heap.size ≠ c := by
            obtain ⟨_, _, -, -, -, -, -, -, h7, h8⟩ := HC.out
            omega
          generalize wr.heap.size = S at *
          have CBK := Lib.hid (back_any _ B c l k nn hC0)
          rw [show bok nn k = true by simp only [bok, decide_eq_true_eq]; omega, if_pos rfl] at CBK
          generalize wr.alloc (Obj.cells #[Value.int .i64 2, .int .i64 nn, .string tx] 53) = W0 at *
          have c1 : W0.cell? ⟨S, 1, none⟩ = some (.int .i64 nn) := by rw [World.cell?, hS0]; rfl
          have HS0 := Lib.hid hS0
          have HL0 := Lib.hid hL0
          clear hC0 hS0 hL0
          refine CBK.out.mono ?_; rintro e W2 ⟨rfl, hc2, hg2⟩
          have hL2 := HL0.out.grown hg2 HL0.out.size (fun r hr => by cases hr; exact hcw)
          have hS2 : W2.heap[S]? = _ := (hg2.block S (Array.getElem?_eq_some_iff.1 HS0.out).1 (fun e => hSc (Option.some.inj e))).trans HS0.out
          have c2 : W2.cell? ⟨S, 1, none⟩ = some (.int .i64 nn) := by rw [World.cell?, hS2]; rfl
          clear hS2 hg2
          have CP := Lib.hid (pos_any W2 B c l (k - nn.toNat) hc2)
          have CLF := Lib.hid (left_any W2 B c l (k - nn.toNat) hc2)
          rw [show (((k - nn.toNat : Nat)) : Int) = (k : Int) - nn by omega] at CP CLF
          have HCF := Lib.hid hc2
          have HLF := Lib.hid hL2
          have hKF : (0 : Int) ≤ (k : Int) - nn ∧ (k : Int) - nn ≤ (l.length : Int) := by have : k - nn.toNat ≤ l.length := by { obtain ⟨_, _, -, -, h3, -⟩ := hc2; exact h3 }; omega
          clear hc2 hL2
          go_wp2_with fail
          refine CP.out.mono ?_; rintro e w' ⟨rfl, rfl⟩
          go_wp2_with fail
          refine CLF.out.mono ?_; rintro e w' ⟨rfl, nF, rfl⟩
          have HCG := Lib.hid (HCF.out.kept (drewN_grown W2 nF none) (by simp))
          have HLG := Lib.hid (below_go HLF.out (below_drewN (Below.refl _ _) nF))
          generalize W2.drewN nF = WF at *
          go_wp2_with fail
          go_roundw
          case rel => exact ⟨k - nn.toNat, n + 1, by omega, by omega, by omega, congrArg (Value.int .i64) (by omega), by go_num, HCG.out, HLG.out⟩
          case measure => simp [intOf]; omega
      · as_aux_lemma =>
        by_cases hlong : tx.size ≤ l.length - k
        · as_aux_lemma =>
          cases hp : pre (bl tx) (l.drop k) with
          | true =>
            have HP := Lib.hid hp
            go_wp2_with fail
            have hC0 := HC.out.kept (World.grownBy_alloc wr (.cells #[.int .i64 3, .int .i64 nn, .string tx] 53) none) (by simp)
            have hL0 := HL.out.alloc HL.out.size (.cells #[.int .i64 3, .int .i64 nn, .string tx] 53)
            have hS0 := heap_alloc_new wr (.cells #[.int .i64 3, .int .i64 nn, .string tx] 53)
            have hSc : wr.heap.size ≠ c := by
              obtain ⟨_, _, -, -, -, -, -, -, h7, h8⟩ := HC.out
              omega
            generalize wr.heap.size = S at *
            have hbW := HB.out.below hL0
            generalize wr.alloc (Obj.cells #[Value.int .i64 3, .int .i64 nn, .string tx] 53) = W0 at *
            have c2 : ∀ m, (W0.drewN m).cell? ⟨S, 2, none⟩ = some (.string tx) := fun m => by show W0.cell? _ = _; rw [World.cell?, hS0]; rfl
            have HK := Lib.hid (fun m => hC0.kept (drewN_grown W0 m none) (by simp))
            have HKL := Lib.hid (fun m => below_go hL0 (below_drewN (Below.refl _ _) m))
            have HKS := Lib.hid (show ∀ m, (W0.drewN m).heap[S]? = some (.cells #[.int .i64 3, .int .i64 nn, .string tx] 53 (0, 0)) from fun m => hS0)
            have w1 : IntKind.i64.wrap ((l.length : Int) - k) = (l.length : Int) - k := IntWalk.i64_in _ (by omega)
            have g1 : (tx.size : Int) ≤ (l.length : Int) - k := by omega
            have w2 : IntKind.i64.wrap ((k : Int) + tx.size) = (k : Int) + tx.size := IntWalk.i64_in _ (by omega)
            have hsl := fun w => run_slice_mid a l.length cap k (k + tx.size) w (by omega) (by omega)
            rw [show ((k + tx.size : Nat) : Int) = (k : Int) + tx.size by omega, Nat.add_sub_cancel_left] at hsl
            obtain ⟨X, hX⟩ : ∃ X : ByteArray, (⟨((l.drop k).take tx.size).toArray⟩ : ByteArray) = X := ⟨_, rfl⟩
            have hcv : ∀ m, (convert 22 9 (.slice (adrop a cap k) tx.size (cap - k))).run Try.prog (W0.drewN m) = .ok (.string X) (W0.drewN m) := fun m => by
              rw [← hX]; exact conv_str_n _ _ _ _ _ (by simp; omega) (((hbW.adrop hlc k).take tx.size).drewN m)
            have heq : (X.toList == tx.toList) = pre (bl tx) (l.drop k) := by rw [pre_eq, ← hX, bl_tl, bl_tl, bl_mk, bl_len]
            rw [hp] at heq
            clear hC0 hS0 hL0 hbW hX
            generalize adrop a cap k = a0 at *
            have w1' := w1
            go_quiet (fail)
            have c2q := c2 nq
            have hcq := HK.out nq
            have HLQ := Lib.hid (HKL.out nq)
            have HSQ := Lib.hid (HKS.out nq)
            have CTK := Lib.hid (take_yes _ B c l k tx hcq b5 (HP.out))
            clear w1 w1' w2 hsl hcv heq c2 hcq
            generalize W0.drewN nq = W1 at *
            go_wp2_with fail
            refine CTK.out.mono ?_; rintro e W2 ⟨rfl, hc2, hg2⟩
            have hL2 := HLQ.out.grown hg2 HLQ.out.size (fun r hr => by cases hr; exact hcw)
            have hS2 : W2.heap[S]? = _ := (hg2.block S (Array.getElem?_eq_some_iff.1 HSQ.out).1 (fun e => hSc (Option.some.inj e))).trans HSQ.out
            have c2w : W2.cell? ⟨S, 2, none⟩ = some (.string tx) := by rw [World.cell?, hS2]; rfl
            clear hS2 hg2
            have CP := Lib.hid (pos_any W2 B c l (k + tx.size) hc2)
            have CLF := Lib.hid (left_any W2 B c l (k + tx.size) hc2)
            rw [show (((k + tx.size : Nat)) : Int) = (k : Int) + tx.size by omega] at CP CLF
            have HCF := Lib.hid hc2
            have HLF := Lib.hid hL2
            have hKF : (0 : Int) ≤ (k : Int) + tx.size ∧ (k : Int) + tx.size ≤ (l.length : Int) := by have : k + tx.size ≤ l.length := by { obtain ⟨_, _, -, -, h3, -⟩ := hc2; exact h3 }; omega
            clear hc2 hL2
            go_wp2_with fail
            refine CP.out.mono ?_; rintro e w' ⟨rfl, rfl⟩
            go_wp2_with fail
            refine CLF.out.mono ?_; rintro e w' ⟨rfl, nF, rfl⟩
            have HCG := Lib.hid (HCF.out.kept (drewN_grown W2 nF none) (by simp))
            have HLG := Lib.hid (below_go HLF.out (below_drewN (Below.refl _ _) nF))
            generalize W2.drewN nF = WF at *
            go_wp2_with fail
            go_roundw
            case rel => exact ⟨k + tx.size, n + 1, by omega, by omega, by omega, congrArg (Value.int .i64) (by omega), by go_num, HCG.out, HLG.out⟩
            case measure => simp [intOf]; omega
          | false =>
            have HP := Lib.hid hp
            go_wp2_with fail
            have hC0 := HC.out.kept (World.grownBy_alloc wr (.cells #[.int .i64 3, .int .i64 nn, .string tx] 53) none) (by simp)
            have hL0 := HL.out.alloc HL.out.size (.cells #[.int .i64 3, .int .i64 nn, .string tx] 53)
            have hS0 := heap_alloc_new wr (.cells #[.int .i64 3, .int .i64 nn, .string tx] 53)
            have hSc : wr.heap.size ≠ c := by
              obtain ⟨_, _, -, -, -, -, -, -, h7, h8⟩ := HC.out
              omega
            generalize wr.heap.size = S at *
            have hbW := HB.out.below hL0
            generalize wr.alloc (Obj.cells #[Value.int .i64 3, .int .i64 nn, .string tx] 53) = W0 at *
            have c2 : ∀ m, (W0.drewN m).cell? ⟨S, 2, none⟩ = some (.string tx) := fun m => by show W0.cell? _ = _; rw [World.cell?, hS0]; rfl
            have HK := Lib.hid (fun m => hC0.kept (drewN_grown W0 m none) (by simp))
            have HKL := Lib.hid (fun m => below_go hL0 (below_drewN (Below.refl _ _) m))
            have HKS := Lib.hid (show ∀ m, (W0.drewN m).heap[S]? = some (.cells #[.int .i64 3, .int .i64 nn, .string tx] 53 (0, 0)) from fun m => hS0)
            have w1 : IntKind.i64.wrap ((l.length : Int) - k) = (l.length : Int) - k := IntWalk.i64_in _ (by omega)
            have g1 : (tx.size : Int) ≤ (l.length : Int) - k := by omega
            have w2 : IntKind.i64.wrap ((k : Int) + tx.size) = (k : Int) + tx.size := IntWalk.i64_in _ (by omega)
            have hsl := fun w => run_slice_mid a l.length cap k (k + tx.size) w (by omega) (by omega)
            rw [show ((k + tx.size : Nat) : Int) = (k : Int) + tx.size by omega, Nat.add_sub_cancel_left] at hsl
            obtain ⟨X, hX⟩ : ∃ X : ByteArray, (⟨((l.drop k).take tx.size).toArray⟩ : ByteArray) = X := ⟨_, rfl⟩
            have hcv : ∀ m, (convert 22 9 (.slice (adrop a cap k) tx.size (cap - k))).run Try.prog (W0.drewN m) = .ok (.string X) (W0.drewN m) := fun m => by
              rw [← hX]; exact conv_str_n _ _ _ _ _ (by simp; omega) (((hbW.adrop hlc k).take tx.size).drewN m)
            have heq : (X.toList == tx.toList) = pre (bl tx) (l.drop k) := by rw [pre_eq, ← hX, bl_tl, bl_tl, bl_mk, bl_len]
            rw [hp] at heq
            clear hC0 hS0 hL0 hbW hX
            generalize adrop a cap k = a0 at *
            have w1' := w1
            go_quiet (fail)
            have c2q := c2 nq
            have hcq := HK.out nq
            have HLQ := Lib.hid (HKL.out nq)
            have HSQ := Lib.hid (HKS.out nq)
            have CTK := Lib.hid (take_no _ B c l k tx hcq b5 (HP.out))
            clear w1 w1' w2 hsl hcv heq c2 hcq
            generalize W0.drewN nq = W1 at *
            go_wp2_with fail
            refine CTK.out.mono ?_; rintro e W2 ⟨rfl, hc2, hg2⟩
            have hL2 := HLQ.out.grown hg2 HLQ.out.size (fun r hr => by cases hr; exact hcw)
            have hS2 : W2.heap[S]? = _ := (hg2.block S (Array.getElem?_eq_some_iff.1 HSQ.out).1 (fun e => hSc (Option.some.inj e))).trans HSQ.out
            have c2w : W2.cell? ⟨S, 2, none⟩ = some (.string tx) := by rw [World.cell?, hS2]; rfl
            clear hS2 hg2
            have CP := Lib.hid (pos_any W2 B c l (k) hc2)
            have CLF := Lib.hid (left_any W2 B c l (k) hc2)
            rw [show (((k : Nat)) : Int) = (k : Int) by omega] at CP CLF
            have HCF := Lib.hid hc2
            have HLF := Lib.hid hL2
            have hKF : (0 : Int) ≤ (k : Int) ∧ (k : Int) ≤ (l.length : Int) := by have : k ≤ l.length := by { obtain ⟨_, _, -, -, h3, -⟩ := hc2; exact h3 }; omega
            clear hc2 hL2
            go_wp2_with fail
            refine CP.out.mono ?_; rintro e w' ⟨rfl, rfl⟩
            go_wp2_with fail
            refine CLF.out.mono ?_; rintro e w' ⟨rfl, nF, rfl⟩
            have HCG := Lib.hid (HCF.out.kept (drewN_grown W2 nF none) (by simp))
            have HLG := Lib.hid (below_go HLF.out (below_drewN (Below.refl _ _) nF))
            generalize W2.drewN nF = WF at *
            go_wp2_with fail
            go_roundw
            case rel => exact ⟨k, n + 1, by omega, by omega, by omega, congrArg (Value.int .i64) (by omega), by go_num, HCG.out, HLG.out⟩
            case measure => simp [intOf]; omega
        · as_aux_lemma =>
          have HP := Lib.hid (show pre (bl tx) (l.drop k) = false by
            cases hh : pre (bl tx) (l.drop k) with
            | false => rfl
            | true => have := pre_len hh; rw [bl_len] at this; simp at this; omega)
          go_wp2_with fail
          have hC0 := HC.out.kept (World.grownBy_alloc wr (.cells #[.int .i64 3, .int .i64 nn, .string tx] 53) none) (by simp)
          have hL0 := HL.out.alloc HL.out.size (.cells #[.int .i64 3, .int .i64 nn, .string tx] 53)
          have hS0 := heap_alloc_new wr (.cells #[.int .i64 3, .int .i64 nn, .string tx] 53)
          have hSc : wr.heap.size ≠ c := by
            obtain ⟨_, _, -, -, -, -, -, -, h7, h8⟩ := HC.out
            omega
          generalize wr.heap.size = S at *
          have hbW := HB.out.below hL0
          generalize wr.alloc (Obj.cells #[Value.int .i64 3, .int .i64 nn, .string tx] 53) = W0 at *
          have c2 : ∀ m, (W0.drewN m).cell? ⟨S, 2, none⟩ = some (.string tx) := fun m => by show W0.cell? _ = _; rw [World.cell?, hS0]; rfl
          have HK := Lib.hid (fun m => hC0.kept (drewN_grown W0 m none) (by simp))
          have HKL := Lib.hid (fun m => below_go hL0 (below_drewN (Below.refl _ _) m))
          have HKS := Lib.hid (show ∀ m, (W0.drewN m).heap[S]? = some (.cells #[.int .i64 3, .int .i64 nn, .string tx] 53 (0, 0)) from fun m => hS0)
          have w1 : IntKind.i64.wrap ((l.length : Int) - k) = (l.length : Int) - k := IntWalk.i64_in _ (by omega)
          have g1 : decide ((tx.size : Int) ≤ (l.length : Int) - k) = false := by simp; omega
          clear hC0 hS0 hL0 hbW
          have w1' := w1
          go_quiet (fail)
          have c2q := c2 nq
          have hcq := HK.out nq
          have HLQ := Lib.hid (HKL.out nq)
          have HSQ := Lib.hid (HKS.out nq)
          have CTK := Lib.hid (take_no _ B c l k tx hcq b5 (HP.out))
          clear w1 w1' c2 hcq
          generalize W0.drewN nq = W1 at *
          go_wp2_with fail
          refine CTK.out.mono ?_; rintro e W2 ⟨rfl, hc2, hg2⟩
          have hL2 := HLQ.out.grown hg2 HLQ.out.size (fun r hr => by cases hr; exact hcw)
          have hS2 : W2.heap[S]? = _ := (hg2.block S (Array.getElem?_eq_some_iff.1 HSQ.out).1 (fun e => hSc (Option.some.inj e))).trans HSQ.out
          have c2w : W2.cell? ⟨S, 2, none⟩ = some (.string tx) := by rw [World.cell?, hS2]; rfl
          clear hS2 hg2
          have CP := Lib.hid (pos_any W2 B c l (k) hc2)
          have CLF := Lib.hid (left_any W2 B c l (k) hc2)
          rw [show (((k : Nat)) : Int) = (k : Int) by omega] at CP CLF
          have HCF := Lib.hid hc2
          have HLF := Lib.hid hL2
          have hKF : (0 : Int) ≤ (k : Int) ∧ (k : Int) ≤ (l.length : Int) := by have : k ≤ l.length := by { obtain ⟨_, _, -, -, h3, -⟩ := hc2; exact h3 }; omega
          clear hc2 hL2
          go_wp2_with fail
          refine CP.out.mono ?_; rintro e w' ⟨rfl, rfl⟩
          go_wp2_with fail
          refine CLF.out.mono ?_; rintro e w' ⟨rfl, nF, rfl⟩
          have HCG := Lib.hid (HCF.out.kept (drewN_grown W2 nF none) (by simp))
          have HLG := Lib.hid (below_go HLF.out (below_drewN (Below.refl _ _) nF))
          generalize W2.drewN nF = WF at *
          go_wp2_with fail
          go_roundw
          case rel => exact ⟨k, n + 1, by omega, by omega, by omega, congrArg (Value.int .i64) (by omega), by go_num, HCG.out, HLG.out⟩
          case measure => simp [intOf]; omega
      · as_aux_lemma =>
        by_cases hd4 : dd = 4
        · as_aux_lemma =>
          subst hd4
          have d4 : ((4 : Int) == 4) = true := rfl
          go_wp2_with fail
          have hC0 := HC.out.kept (World.grownBy_alloc wr (.cells #[.int .i64 4, .int .i64 nn, .string tx] 53) none) (by simp)
          have hL0 := HL.out.alloc HL.out.size (.cells #[.int .i64 4, .int .i64 nn, .string tx] 53)
          have hS0 := heap_alloc_new wr (.cells #[.int .i64 4, .int .i64 nn, .string tx] 53)
          have hSc : wr.heap.size ≠ c := by
            obtain ⟨_, _, -, -, -, -, -, -, h7, h8⟩ := HC.out
            omega
          generalize wr.heap.size = S at *
          have hbW := HB.out.below hL0
          generalize wr.alloc (Obj.cells #[Value.int .i64 4, .int .i64 nn, .string tx] 53) = W0 at *
          have c0 : ∀ m, (W0.drewN m).cell? ⟨S, 0, none⟩ = some (.int .i64 4) := fun m => by show W0.cell? _ = _; rw [World.cell?, hS0]; rfl
          have c2 : ∀ m, (W0.drewN m).cell? ⟨S, 2, none⟩ = some (.string tx) := fun m => by show W0.cell? _ = _; rw [World.cell?, hS0]; rfl
          have HK := Lib.hid (fun m => hC0.kept (drewN_grown W0 m none) (by simp))
          have HKL := Lib.hid (fun m => below_go hL0 (below_drewN (Below.refl _ _) m))
          have HBW := Lib.hid hbW
          have HKS := Lib.hid (show ∀ m, (W0.drewN m).heap[S]? = some (.cells #[.int .i64 4, .int .i64 nn, .string tx] 53 (0, 0)) from fun m => hS0)
          clear hC0 hS0 hL0 hbW
          go_loopw [6] (fun p w2 => ∃ (j m : Nat), k ≤ j ∧ j ≤ l.length ∧ p = .int .i64 j ∧ (∀ i (hi : i < l.length), k ≤ i → i < j → fits (bl tx) true l[i] = true) ∧ w2 = W0.drewN m) (fun p _ => l.length - (intOf p).toNat)
          case atStart => exact ⟨k, 0, Nat.le_refl _, hk, rfl, fun i hi h1 h2 => by omega, rfl⟩
          case round =>
            obtain ⟨j, m, hkj, hj, rfl, hall, rfl⟩ := hrel
            have HA := Lib.hid hall; clear hall
            have c0' : ∀ q, ((W0.drewN m).drewN q).cell? ⟨S, 0, none⟩ = some (.int .i64 4) := fun q => c0 m
            have c2' : ∀ q, ((W0.drewN m).drewN q).cell? ⟨S, 2, none⟩ = some (.string tx) := fun q => c2 m
            have HWD := Lib.hid (fun q => drewN_add W0 m q)
            have HBX := Lib.hid (show HasB (W0.drewN m) a l from HBW.out.drewN m)
            by_cases hjl : j < l.length
            · obtain ⟨ba, oa, rfl, hba, hca⟩ := HBX.out.at hjl
              have hck : ∀ q, ((W0.drewN m).drewN q).cell? ⟨ba, oa + j, none⟩ = some (.int .u8 (iv l[j])) := fun q => hca j hjl
              have j0 : (0 : Int) ≤ (j : Int) := by omega
              have j1 : (j : Int) < (l.length : Int) := by omega
              have j2 : decide ((j : Int) < (l.length : Int)) = true := by simp; omega
              have HX0 := iv_lo l[j]
              have HX1 := iv_hi l[j]
              have CI := Lib.hid (fun w => in_any (iv l[j]) tx w HX0 HX1 b5)
              have HF := Lib.hid (show fits (bl tx) true l[j] = (isin (iv l[j]) (bl tx) == true) from rfl)
              have HO := Lib.hid (fun (he : fits (bl tx) true l[j] = false) => piece_at hkj hj HA.out (fun _ => he))
              have HN := Lib.hid (show fits (bl tx) true l[j] = true → ∀ i (hi : i < l.length), k ≤ i → i < j + 1 → fits (bl tx) true l[i] = true by
                intro hf i hi h1 h2
                rcases Nat.lt_or_ge i j with h3 | h3
                · exact HA.out i hi h1 h3
                · obtain rfl : i = j := by omega
                  exact hf)
              generalize fits (bl tx) true l[j] = ft at *
              generalize iv l[j] = z at *
              generalize isin z (bl tx) = bz at *
              clear hca c0 c2 HBX
              generalize W0.drewN m = W1 at *
              cases ft with
              | true =>
                have hf := HF.out.symm
                have HN' := Lib.hid (HN.out rfl)
                go_wp2_with fail
                go_quiet ((go_at_call 28; exact Calls.quiet_of_same ((CI.out _).mono fun e w' ⟨h1, h2⟩ => ⟨h1, h2.symm⟩)))
                obtain ⟨m', hm'⟩ := HWD.out nq
                have HM' := Lib.hid hm'
                clear hm' c0' c2' hck
                go_wp2_with fail
                go_roundw
                case rel => exact ⟨j + 1, m', by omega, by omega, by go_num, HN'.out, HM'.out⟩
                case measure => simp [intOf]; omega
              | false =>
                have hf := HF.out.symm
                have HP := Lib.hid (HO.out rfl)
                go_wp2_with fail
                go_quiet ((go_at_call 28; exact Calls.quiet_of_same ((CI.out _).mono fun e w' ⟨h1, h2⟩ => ⟨h1, h2.symm⟩)))
                obtain ⟨m', hm'⟩ := HWD.out nq
                clear c0' c2'
                rw [hm']
                have hcV := HK.out m'
                have hLV := HKL.out m'
                have hSV := HKS.out m'
                have hbV := HBW.out.drewN m'
                generalize W0.drewN m' = V at *
                have c0V : V.cell? ⟨S, 0, none⟩ = some (.int .i64 4) := by rw [World.cell?, hSV]; rfl
                have c2V : V.cell? ⟨S, 2, none⟩ = some (.string tx) := by rw [World.cell?, hSV]; rfl
                clear hm'
                have HCV := Lib.hid hcV
                have HLV := Lib.hid hLV
                have HSV := Lib.hid hSV
                have HBV := Lib.hid hbV
                clear hcV hLV hSV hbV
                have hq : k + (j - k) = j := by omega
                have CW := Lib.hid (both_any true V.drew B c S l k (j - k) tx (HCV.out.kept (drew_grown V none) (by simp)) b5 hSc c2V HP.out (by omega))
                rw [hq] at CW
                simp only [if_true] at CW
                have hsl := fun w => run_slice_mid (some ⟨ba, oa, none⟩) l.length cap k j w hkj (by omega)
                have hln : ((l.drop k).take (j - k)).length = j - k := by simp; omega
                have HLN := Lib.hid hln
                have c2D : V.drew.cell? ⟨S, 2, none⟩ = some (.string tx) := c2V
                have CB := Lib.hid (fun (w2 : World) (a' : Option Addr) (cp : Nat) (h1 : HasB w2 a' ((l.drop k).take (j - k))) (g : V.drew.grownBy w2 (some c)) => bytes_n w2 a' (adrop (some ⟨ba, oa, none⟩) cap k) _ _ (j - k) (j - k) cp (cap - k) HLN.out HLN.out h1 (((HB.out.below (HLV.out.drew.grown g HLV.out.size (fun r hr => by cases hr; exact hcw))).adrop hlc k).take (j - k)))
                clear hln hq
                go_wp2_with fail
                go_region_held3 (fun w' => w'.cell? ⟨S, 2, none⟩ = some (.string tx)) (first | exact c2D | assumption) ((first | (go_at_call 26; refine CW.out.mono ?_; rintro e w2 ⟨a', cap', rfl, hx1, hx2, hx3, hx4⟩) | (go_at_call 30; refine (CB.out _ _ _ hx1 hx3).mono ?_; rintro e w3 ⟨rfl, rfl⟩)))
                have hL2 := HLV.out.drew.grown hx3 HLV.out.size (fun r hr => by cases hr; exact hcw)
                clear hx1 hx3 hx4 CB CW hsl c2D
                have CP := Lib.hid (pos_any w2 B c l (j) hx2)
                have CLF := Lib.hid (left_any w2 B c l (j) hx2)
                rw [show (((j : Nat)) : Int) = (j : Int) by omega] at CP CLF
                have HCF := Lib.hid hx2
                have HLF := Lib.hid hL2
                have hKF : (0 : Int) ≤ (j : Int) ∧ (j : Int) ≤ (l.length : Int) := by have : j ≤ l.length := by { obtain ⟨_, _, -, -, h3, -⟩ := hx2; exact h3 }; omega
                clear hx2 hL2
                go_wp2_with fail
                refine CP.out.mono ?_; rintro e w' ⟨rfl, rfl⟩
                go_wp2_with fail
                refine CLF.out.mono ?_; rintro e w' ⟨rfl, nF, rfl⟩
                have HCG := Lib.hid (HCF.out.kept (drewN_grown w2 nF none) (by simp))
                have HLG := Lib.hid (below_go HLF.out (below_drewN (Below.refl _ _) nF))
                generalize w2.drewN nF = WF at *
                go_wp2_with fail
                go_roundw
                case rel => exact ⟨j, n + 1, by omega, by omega, by omega, congrArg (Value.int .i64) (by omega), by go_num, HCG.out, HLG.out⟩
                case measure => simp [intOf]; omega
            · have j2 : decide ((j : Int) < (l.length : Int)) = false := by simp; omega
              have HP := Lib.hid (piece_at (s := bl tx) (among := true) hkj hj HA.out (fun h => absurd h hjl))
              clear c0 c2 HBX
              generalize W0.drewN m = W1 at *
              go_wp2_with fail
              go_quiet (fail)
              obtain ⟨m', hm'⟩ := HWD.out nq
              clear c0' c2'
              rw [hm']
              have hcV := HK.out m'
              have hLV := HKL.out m'
              have hSV := HKS.out m'
              have hbV := HBW.out.drewN m'
              generalize W0.drewN m' = V at *
              have c0V : V.cell? ⟨S, 0, none⟩ = some (.int .i64 4) := by rw [World.cell?, hSV]; rfl
              have c2V : V.cell? ⟨S, 2, none⟩ = some (.string tx) := by rw [World.cell?, hSV]; rfl
              clear hm'
              have HCV := Lib.hid hcV
              have HLV := Lib.hid hLV
              have HSV := Lib.hid hSV
              have HBV := Lib.hid hbV
              clear hcV hLV hSV hbV
              have hq : k + (j - k) = j := by omega
              have CW := Lib.hid (both_any true V.drew B c S l k (j - k) tx (HCV.out.kept (drew_grown V none) (by simp)) b5 hSc c2V HP.out (by omega))
              rw [hq] at CW
              simp only [if_true] at CW
              have hsl := fun w => run_slice_mid a l.length cap k j w hkj (by omega)
              have hln : ((l.drop k).take (j - k)).length = j - k := by simp; omega
              have HLN := Lib.hid hln
              have c2D : V.drew.cell? ⟨S, 2, none⟩ = some (.string tx) := c2V
              have CB := Lib.hid (fun (w2 : World) (a' : Option Addr) (cp : Nat) (h1 : HasB w2 a' ((l.drop k).take (j - k))) (g : V.drew.grownBy w2 (some c)) => bytes_n w2 a' (adrop a cap k) _ _ (j - k) (j - k) cp (cap - k) HLN.out HLN.out h1 (((HB.out.below (HLV.out.drew.grown g HLV.out.size (fun r hr => by cases hr; exact hcw))).adrop hlc k).take (j - k)))
              clear hln hq
              go_wp2_with fail
              go_region_held3 (fun w' => w'.cell? ⟨S, 2, none⟩ = some (.string tx)) (first | exact c2D | assumption) ((first | (go_at_call 26; refine CW.out.mono ?_; rintro e w2 ⟨a', cap', rfl, hx1, hx2, hx3, hx4⟩) | (go_at_call 30; refine (CB.out _ _ _ hx1 hx3).mono ?_; rintro e w3 ⟨rfl, rfl⟩)))
              have hL2 := HLV.out.drew.grown hx3 HLV.out.size (fun r hr => by cases hr; exact hcw)
              clear hx1 hx3 hx4 CB CW hsl c2D
              have CP := Lib.hid (pos_any w2 B c l (j) hx2)
              have CLF := Lib.hid (left_any w2 B c l (j) hx2)
              rw [show (((j : Nat)) : Int) = (j : Int) by omega] at CP CLF
              have HCF := Lib.hid hx2
              have HLF := Lib.hid hL2
              have hKF : (0 : Int) ≤ (j : Int) ∧ (j : Int) ≤ (l.length : Int) := by have : j ≤ l.length := by { obtain ⟨_, _, -, -, h3, -⟩ := hx2; exact h3 }; omega
              clear hx2 hL2
              go_wp2_with fail
              refine CP.out.mono ?_; rintro e w' ⟨rfl, rfl⟩
              go_wp2_with fail
              refine CLF.out.mono ?_; rintro e w' ⟨rfl, nF, rfl⟩
              have HCG := Lib.hid (HCF.out.kept (drewN_grown w2 nF none) (by simp))
              have HLG := Lib.hid (below_go HLF.out (below_drewN (Below.refl _ _) nF))
              generalize w2.drewN nF = WF at *
              go_wp2_with fail
              go_roundw
              case rel => exact ⟨j, n + 1, by omega, by omega, by omega, congrArg (Value.int .i64) (by omega), by go_num, HCG.out, HLG.out⟩
              case measure => simp [intOf]; omega
        · as_aux_lemma =>
          have d4 : (dd == 4) = false := by simpa using hd4
          have d5 : (dd == 0) = false := by simp; omega
          have d6 : (dd == 1) = false := by simp; omega
          have d7 : (dd == 2) = false := by simp; omega
          have d8 : (dd == 3) = false := by simp; omega
          go_wp2_with fail
          have hC0 := HC.out.kept (World.grownBy_alloc wr (.cells #[.int .i64 dd, .int .i64 nn, .string tx] 53) none) (by simp)
          have hL0 := HL.out.alloc HL.out.size (.cells #[.int .i64 dd, .int .i64 nn, .string tx] 53)
          have hS0 := heap_alloc_new wr (.cells #[.int .i64 dd, .int .i64 nn, .string tx] 53)
          have hSc : wr.heap.size ≠ c := by
            obtain ⟨_, _, -, -, -, -, -, -, h7, h8⟩ := HC.out
            omega
          generalize wr.heap.size = S at *
          have hbW := HB.out.below hL0
          generalize wr.alloc (Obj.cells #[Value.int .i64 dd, .int .i64 nn, .string tx] 53) = W0 at *
          have c0 : ∀ m, (W0.drewN m).cell? ⟨S, 0, none⟩ = some (.int .i64 dd) := fun m => by show W0.cell? _ = _; rw [World.cell?, hS0]; rfl
          have c2 : ∀ m, (W0.drewN m).cell? ⟨S, 2, none⟩ = some (.string tx) := fun m => by show W0.cell? _ = _; rw [World.cell?, hS0]; rfl
          have HK := Lib.hid (fun m => hC0.kept (drewN_grown W0 m none) (by simp))
          have HKL := Lib.hid (fun m => below_go hL0 (below_drewN (Below.refl _ _) m))
          have HBW := Lib.hid hbW
          have HKS := Lib.hid (show ∀ m, (W0.drewN m).heap[S]? = some (.cells #[.int .i64 dd, .int .i64 nn, .string tx] 53 (0, 0)) from fun m => hS0)
          clear hC0 hS0 hL0 hbW
          go_loopw [6] (fun p w2 => ∃ (j m : Nat), k ≤ j ∧ j ≤ l.length ∧ p = .int .i64 j ∧ (∀ i (hi : i < l.length), k ≤ i → i < j → fits (bl tx) false l[i] = true) ∧ w2 = W0.drewN m) (fun p _ => l.length - (intOf p).toNat)
          case atStart => exact ⟨k, 0, Nat.le_refl _, hk, rfl, fun i hi h1 h2 => by omega, rfl⟩
          case round =>
            obtain ⟨j, m, hkj, hj, rfl, hall, rfl⟩ := hrel
            have HA := Lib.hid hall; clear hall
            have c0' : ∀ q, ((W0.drewN m).drewN q).cell? ⟨S, 0, none⟩ = some (.int .i64 dd) := fun q => c0 m
            have c2' : ∀ q, ((W0.drewN m).drewN q).cell? ⟨S, 2, none⟩ = some (.string tx) := fun q => c2 m
            have HWD := Lib.hid (fun q => drewN_add W0 m q)
            have HBX := Lib.hid (show HasB (W0.drewN m) a l from HBW.out.drewN m)
            by_cases hjl : j < l.length
            · obtain ⟨ba, oa, rfl, hba, hca⟩ := HBX.out.at hjl
              have hck : ∀ q, ((W0.drewN m).drewN q).cell? ⟨ba, oa + j, none⟩ = some (.int .u8 (iv l[j])) := fun q => hca j hjl
              have j0 : (0 : Int) ≤ (j : Int) := by omega
              have j1 : (j : Int) < (l.length : Int) := by omega
              have j2 : decide ((j : Int) < (l.length : Int)) = true := by simp; omega
              have HX0 := iv_lo l[j]
              have HX1 := iv_hi l[j]
              have CI := Lib.hid (fun w => in_any (iv l[j]) tx w HX0 HX1 b5)
              have HF := Lib.hid (show fits (bl tx) false l[j] = (isin (iv l[j]) (bl tx) == false) from rfl)
              have HO := Lib.hid (fun (he : fits (bl tx) false l[j] = false) => piece_at hkj hj HA.out (fun _ => he))
              have HN := Lib.hid (show fits (bl tx) false l[j] = true → ∀ i (hi : i < l.length), k ≤ i → i < j + 1 → fits (bl tx) false l[i] = true by
                intro hf i hi h1 h2
                rcases Nat.lt_or_ge i j with h3 | h3
                · exact HA.out i hi h1 h3
                · obtain rfl : i = j := by omega
                  exact hf)
              generalize fits (bl tx) false l[j] = ft at *
              generalize iv l[j] = z at *
              generalize isin z (bl tx) = bz at *
              clear hca c0 c2 HBX
              generalize W0.drewN m = W1 at *
              cases ft with
              | true =>
                have hf := HF.out.symm
                have HN' := Lib.hid (HN.out rfl)
                go_wp2_with fail
                go_quiet ((go_at_call 28; exact Calls.quiet_of_same ((CI.out _).mono fun e w' ⟨h1, h2⟩ => ⟨h1, h2.symm⟩)))
                obtain ⟨m', hm'⟩ := HWD.out nq
                have HM' := Lib.hid hm'
                clear hm' c0' c2' hck
                go_wp2_with fail
                go_roundw
                case rel => exact ⟨j + 1, m', by omega, by omega, by go_num, HN'.out, HM'.out⟩
                case measure => simp [intOf]; omega
              | false =>
                have hf := HF.out.symm
                have HP := Lib.hid (HO.out rfl)
                go_wp2_with fail
                go_quiet ((go_at_call 28; exact Calls.quiet_of_same ((CI.out _).mono fun e w' ⟨h1, h2⟩ => ⟨h1, h2.symm⟩)))
                obtain ⟨m', hm'⟩ := HWD.out nq
                clear c0' c2'
                rw [hm']
                have hcV := HK.out m'
                have hLV := HKL.out m'
                have hSV := HKS.out m'
                have hbV := HBW.out.drewN m'
                generalize W0.drewN m' = V at *
                have c0V : V.cell? ⟨S, 0, none⟩ = some (.int .i64 dd) := by rw [World.cell?, hSV]; rfl
                have c2V : V.cell? ⟨S, 2, none⟩ = some (.string tx) := by rw [World.cell?, hSV]; rfl
                clear hm'
                have HCV := Lib.hid hcV
                have HLV := Lib.hid hLV
                have HSV := Lib.hid hSV
                have HBV := Lib.hid hbV
                clear hcV hLV hSV hbV
                have hq : k + (j - k) = j := by omega
                have CW := Lib.hid (both_any false V.drew B c S l k (j - k) tx (HCV.out.kept (drew_grown V none) (by simp)) b5 hSc c2V HP.out (by omega))
                rw [hq] at CW
                simp only [Bool.false_eq_true, if_false] at CW
                have hsl := fun w => run_slice_mid (some ⟨ba, oa, none⟩) l.length cap k j w hkj (by omega)
                have hln : ((l.drop k).take (j - k)).length = j - k := by simp; omega
                have HLN := Lib.hid hln
                have c2D : V.drew.cell? ⟨S, 2, none⟩ = some (.string tx) := c2V
                have CB := Lib.hid (fun (w2 : World) (a' : Option Addr) (cp : Nat) (h1 : HasB w2 a' ((l.drop k).take (j - k))) (g : V.drew.grownBy w2 (some c)) => bytes_n w2 a' (adrop (some ⟨ba, oa, none⟩) cap k) _ _ (j - k) (j - k) cp (cap - k) HLN.out HLN.out h1 (((HB.out.below (HLV.out.drew.grown g HLV.out.size (fun r hr => by cases hr; exact hcw))).adrop hlc k).take (j - k)))
                clear hln hq
                go_wp2_with fail
                go_region_held3 (fun w' => w'.cell? ⟨S, 2, none⟩ = some (.string tx)) (first | exact c2D | assumption) ((first | (go_at_call 27; refine CW.out.mono ?_; rintro e w2 ⟨a', cap', rfl, hx1, hx2, hx3, hx4⟩) | (go_at_call 30; refine (CB.out _ _ _ hx1 hx3).mono ?_; rintro e w3 ⟨rfl, rfl⟩)))
                have hL2 := HLV.out.drew.grown hx3 HLV.out.size (fun r hr => by cases hr; exact hcw)
                clear hx1 hx3 hx4 CB CW hsl c2D
                have CP := Lib.hid (pos_any w2 B c l (j) hx2)
                have CLF := Lib.hid (left_any w2 B c l (j) hx2)
                rw [show (((j : Nat)) : Int) = (j : Int) by omega] at CP CLF
                have HCF := Lib.hid hx2
                have HLF := Lib.hid hL2
                have hKF : (0 : Int) ≤ (j : Int) ∧ (j : Int) ≤ (l.length : Int) := by have : j ≤ l.length := by { obtain ⟨_, _, -, -, h3, -⟩ := hx2; exact h3 }; omega
                clear hx2 hL2
                go_wp2_with fail
                refine CP.out.mono ?_; rintro e w' ⟨rfl, rfl⟩
                go_wp2_with fail
                refine CLF.out.mono ?_; rintro e w' ⟨rfl, nF, rfl⟩
                have HCG := Lib.hid (HCF.out.kept (drewN_grown w2 nF none) (by simp))
                have HLG := Lib.hid (below_go HLF.out (below_drewN (Below.refl _ _) nF))
                generalize w2.drewN nF = WF at *
                go_wp2_with fail
                go_roundw
                case rel => exact ⟨j, n + 1, by omega, by omega, by omega, congrArg (Value.int .i64) (by omega), by go_num, HCG.out, HLG.out⟩
                case measure => simp [intOf]; omega
            · have j2 : decide ((j : Int) < (l.length : Int)) = false := by simp; omega
              have HP := Lib.hid (piece_at (s := bl tx) (among := false) hkj hj HA.out (fun h => absurd h hjl))
              clear c0 c2 HBX
              generalize W0.drewN m = W1 at *
              go_wp2_with fail
              go_quiet (fail)
              obtain ⟨m', hm'⟩ := HWD.out nq
              clear c0' c2'
              rw [hm']
              have hcV := HK.out m'
              have hLV := HKL.out m'
              have hSV := HKS.out m'
              have hbV := HBW.out.drewN m'
              generalize W0.drewN m' = V at *
              have c0V : V.cell? ⟨S, 0, none⟩ = some (.int .i64 dd) := by rw [World.cell?, hSV]; rfl
              have c2V : V.cell? ⟨S, 2, none⟩ = some (.string tx) := by rw [World.cell?, hSV]; rfl
              clear hm'
              have HCV := Lib.hid hcV
              have HLV := Lib.hid hLV
              have HSV := Lib.hid hSV
              have HBV := Lib.hid hbV
              clear hcV hLV hSV hbV
              have hq : k + (j - k) = j := by omega
              have CW := Lib.hid (both_any false V.drew B c S l k (j - k) tx (HCV.out.kept (drew_grown V none) (by simp)) b5 hSc c2V HP.out (by omega))
              rw [hq] at CW
              simp only [Bool.false_eq_true, if_false] at CW
              have hsl := fun w => run_slice_mid a l.length cap k j w hkj (by omega)
              have hln : ((l.drop k).take (j - k)).length = j - k := by simp; omega
              have HLN := Lib.hid hln
              have c2D : V.drew.cell? ⟨S, 2, none⟩ = some (.string tx) := c2V
              have CB := Lib.hid (fun (w2 : World) (a' : Option Addr) (cp : Nat) (h1 : HasB w2 a' ((l.drop k).take (j - k))) (g : V.drew.grownBy w2 (some c)) => bytes_n w2 a' (adrop a cap k) _ _ (j - k) (j - k) cp (cap - k) HLN.out HLN.out h1 (((HB.out.below (HLV.out.drew.grown g HLV.out.size (fun r hr => by cases hr; exact hcw))).adrop hlc k).take (j - k)))
              clear hln hq
              go_wp2_with fail
              go_region_held3 (fun w' => w'.cell? ⟨S, 2, none⟩ = some (.string tx)) (first | exact c2D | assumption) ((first | (go_at_call 27; refine CW.out.mono ?_; rintro e w2 ⟨a', cap', rfl, hx1, hx2, hx3, hx4⟩) | (go_at_call 30; refine (CB.out _ _ _ hx1 hx3).mono ?_; rintro e w3 ⟨rfl, rfl⟩)))
              have hL2 := HLV.out.drew.grown hx3 HLV.out.size (fun r hr => by cases hr; exact hcw)
              clear hx1 hx3 hx4 CB CW hsl c2D
              have CP := Lib.hid (pos_any w2 B c l (j) hx2)
              have CLF := Lib.hid (left_any w2 B c l (j) hx2)
              rw [show (((j : Nat)) : Int) = (j : Int) by omega] at CP CLF
              have HCF := Lib.hid hx2
              have HLF := Lib.hid hL2
              have hKF : (0 : Int) ≤ (j : Int) ∧ (j : Int) ≤ (l.length : Int) := by have : j ≤ l.length := by { obtain ⟨_, _, -, -, h3, -⟩ := hx2; exact h3 }; omega
              clear hx2 hL2
              go_wp2_with fail
              refine CP.out.mono ?_; rintro e w' ⟨rfl, rfl⟩
              go_wp2_with fail
              refine CLF.out.mono ?_; rintro e w' ⟨rfl, nF, rfl⟩
              have HCG := Lib.hid (HCF.out.kept (drewN_grown w2 nF none) (by simp))
              have HLG := Lib.hid (below_go HLF.out (below_drewN (Below.refl _ _) nF))
              generalize w2.drewN nF = WF at *
              go_wp2_with fail
              go_roundw
              case rel => exact ⟨j, n + 1, by omega, by omega, by omega, congrArg (Value.int .i64) (by omega), by go_num, HCG.out, HLG.out⟩
              case measure => simp [intOf]; omega
    · by_cases h1 : n < st.length
      · as_aux_lemma =>
        have h2 : n = 100 := by omega
        have h3 : (n : Int) < (st.length : Int) := by omega
        have h4 : ¬ (n : Int) < 100 := by omega
        clear h2
        go_wp2_with fail
        refine (awake_any _).mono ?_; rintro e W6 ⟨rfl, hw6⟩
        go_wp2_with fail
        go_ret
        exact ⟨rfl, below_go HL.out hw6⟩
      · as_aux_lemma =>
        have h3 : ¬ (n : Int) < (st.length : Int) := by omega
        go_wp2_with fail
        refine (awake_any _).mono ?_; rintro e W6 ⟨rfl, hw6⟩
        go_wp2_with fail
        go_ret
        exact ⟨rfl, below_go HL.out hw6⟩
end Go.Proofs.Ytcmeijeddjckjaa
