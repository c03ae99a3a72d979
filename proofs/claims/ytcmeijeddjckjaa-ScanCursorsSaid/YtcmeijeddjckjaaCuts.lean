/-
  While, Until; appending bytes to a slice of the call's own; the walk of the law ScanCuts. Conditions: those that each theorem names.
-/
import Derived.Test.YtcmeijeddjckjaaPass
namespace Go.Proofs.Ytcmeijeddjckjaa
open Go.RowKit
set_option linter.unusedVariables false
set_option maxHeartbeats 400000 in
theorem while_any (w : World) (B c : Nat) (l : List UInt8) (k : Nat) (s : ByteArray) (h : Cur w B c l k) (hs : s.size ≤ 9223372036854775807) :
    Calls Try.prog 26 #[.pointer (some ⟨c, 0, none⟩), .string s] w fun e w' => ∃ a' cap', e = .returned (.slice a' (piece (bl s) true (l.drop k)).length cap') ∧
      OwnB w' w.heap.size a' (piece (bl s) true (l.drop k)) ∧ Cur w' B c l (k + (piece (bl s) true (l.drop k)).length) ∧ w.grownBy w' (some c) := by
  have H := Lib.hid (pass_any w B c l k s true h hs)
  clear h
  generalize piece (bl s) true (l.drop k) = p at *
  go_enter Try.func26, Try.ntmps26
  go_wp2_with fail
  refine H.out.mono ?_; rintro e w' ⟨a', cap', rfl, h1, h2, h3⟩
  have H1 := Lib.hid h1; have H2 := Lib.hid h2; have H3 := Lib.hid h3
  clear h1 h2 h3
  go_wp2_with fail
  go_ret
  exact ⟨a', cap', rfl, H1.out, H2.out, H3.out⟩
set_option maxHeartbeats 400000 in
theorem until_any (w : World) (B c : Nat) (l : List UInt8) (k : Nat) (s : ByteArray) (h : Cur w B c l k) (hs : s.size ≤ 9223372036854775807) :
    Calls Try.prog 27 #[.pointer (some ⟨c, 0, none⟩), .string s] w fun e w' => ∃ a' cap', e = .returned (.slice a' (piece (bl s) false (l.drop k)).length cap') ∧
      OwnB w' w.heap.size a' (piece (bl s) false (l.drop k)) ∧ Cur w' B c l (k + (piece (bl s) false (l.drop k)).length) ∧ w.grownBy w' (some c) := by
  have H := Lib.hid (pass_any w B c l k s false h hs)
  clear h
  generalize piece (bl s) false (l.drop k) = p at *
  go_enter Try.func27, Try.ntmps27
  go_wp2_with fail
  refine H.out.mono ?_; rintro e w' ⟨a', cap', rfl, h1, h2, h3⟩
  have H1 := Lib.hid h1; have H2 := Lib.hid h2; have H3 := Lib.hid h3
  clear h1 h2 h3
  go_wp2_with fail
  go_ret
  exact ⟨a', cap', rfl, H1.out, H2.out, H3.out⟩
theorem bcells_app (l m : List UInt8) : bcells (l ++ m) = bcells l ++ bcells m := by simp [bcells]
theorem run_app_own (w : World) (B : Nat) (v : Value) (l : List UInt8) (a : Option Addr) (l2 : List UInt8) (cap : Nat) (hown : w.ownsRow B 5 1 v l.length (bcells l)) (hb : HasB w a l2) (hl : l.length + l2.length ≤ 140737488351232) (hB : B ≤ w.heap.size) :
    ∃ v' w', (Builtin.append_ #[22, 22] 22 #[v, .slice a l2.length cap]).run Try.prog w = .ok v' w' ∧ w'.ownsRow B 5 1 v' (l ++ l2).length (bcells (l ++ l2)) ∧ w.grownBy w' v.ownBlock := by
  obtain ⟨i0, hi, hz0, hz1, hz2⟩ := info_parts info5
  have ht := Try.underlying22
  have hnone : l2 = [] → ∃ v' w', (Builtin.append_ #[22, 22] 22 #[v, .slice a l2.length cap]).run Try.prog w = .ok v' w' ∧ w'.ownsRow B 5 1 v' (l ++ l2).length (bcells (l ++ l2)) ∧ w.grownBy w' v.ownBlock := by
    rintro rfl
    refine ⟨v, w, ?_, by simpa using hown, ⟨rfl, rfl, rfl, Nat.le_refl _, fun _ _ _ => rfl⟩⟩
    rcases hown.2 with ⟨rfl, h0⟩ | ⟨g, cp, cur, rfl, -, hg, hn, -⟩
    · cases a <;> simp [Builtin.append_, run_underlying ht, sizeOf, typeInfo, hi, Builtin.lenOf, Builtin.firstCells, loadCells, loadCellsFrom]
    · cases a <;> simp [Builtin.append_, run_underlying ht, sizeOf, typeInfo, hi, Builtin.lenOf, Builtin.firstCells, loadCells, loadCellsFrom, hn, storeCells]
  rcases hb with h | ⟨b, off, rfl, hlt, hc⟩
  · exact hnone h
  · have hbl : (bcells l2).length = l2.length * 1 := by simp [bcells]
    have hat : ∀ i (hi : i < l2.length), (bcells l2)[i]? = some (.int .u8 (iv l2[i])) := fun i hi => by simp [bcells, hi]
    obtain ⟨v', w', h1, h2, h3, -⟩ := run_append_own (P := Try.prog) w B 22 22 5 i0 (.int .u8 0) 1 1 ht hi hz0 hz1 hz2 rfl (by decide) v l.length (bcells l) hown ⟨b, off, none⟩ l2.length cap (bcells l2) hbl (fun j u hj => by
        have hjl : j < l2.length := by have := (List.getElem?_eq_some_iff.1 hj).1; simpa [bcells] using this
        have hadd : (⟨b, off, none⟩ : Addr).add j = ⟨b, off + j, none⟩ := by unfold Addr.add; split <;> simp_all
        rw [hadd, hc j hjl, ← hat j hjl]; exact hj) (fun u hu => by
        simp only [bcells, List.mem_map] at hu
        obtain ⟨c, -, rfl⟩ := hu; rfl) (by simp [maxLen]; omega) (by omega) hB
    exact ⟨v', w', h1, by rw [bcells_app, List.length_append]; exact h2, h3⟩
theorem OwnB.kept {w w' : World} {B : Nat} {a : Option Addr} {l : List UInt8} {row : Option Nat} (h : OwnB w B a l) (g : w.grownBy w' row) (hr : ∀ r, row = some r → r < B) : OwnB w' B a l := by
  rcases h with h | ⟨b, off, h1, h2, h3, h4⟩
  · exact .inl h
  · have hne : some b ≠ row := fun e => by have := hr b e.symm; omega
    exact .inr ⟨b, off, h1, h2, Nat.lt_of_lt_of_le h3 g.size, fun i hi => (World.cell?_of_block (w := w) (a := ⟨b, off + i, none⟩) (g.block b h3 hne)).trans (h4 i hi)⟩
theorem piece_fits {s : List UInt8} {among : Bool} {l : List UInt8} {i : Nat} (hi : i < (piece s among l).length) : isin (iv (piece s among l)[i]) s = among := by
  have : ∀ x ∈ piece s among l, fits s among x = true := List.all_eq_true.1 List.all_takeWhile
  have := this _ (List.getElem_mem hi)
  unfold fits at this
  simpa using this
theorem piece_len (s : List UInt8) (among : Bool) (l : List UInt8) : (piece s among l).length ≤ l.length := (List.takeWhile_sublist _).length_le
theorem piece_pre (s : List UInt8) (among : Bool) (l : List UInt8) : l.take (piece s among l).length = piece s among l := by
  have := List.prefix_iff_eq_take.1 (List.takeWhile_prefix (fits s among) (l := l))
  exact this.symm
/-- a round of both passes something, if something is left -/
theorem piece_two (s : List UInt8) (l : List UInt8) (h : l ≠ []) : 0 < (piece s true l).length + (piece s false (l.drop (piece s true l).length)).length := by
  cases l with
  | nil => exact absurd rfl h
  | cons c t =>
    by_cases hc : isin (iv c) s = true
    · have : 0 < (piece s true (c :: t)).length := by simp [piece, fits, hc]
      omega
    · have h0 : piece s true (c :: t) = [] := by simp [piece, fits, hc]
      rw [h0]
      have : 0 < (piece s false (c :: t)).length := by simp [piece, fits, hc]
      simpa using this
theorem take_two (l : List UInt8) (k m n : Nat) : l.take k ++ (l.drop k).take m ++ (l.drop (k + m)).take n = l.take (k + m + n) := by
  rw [← List.take_add, ← List.take_add]
theorem own_form {w : World} {B : Nat} {v : Value} {l : List UInt8} (h : w.ownsRow B 5 1 v l.length (bcells l)) : ∃ ad cap, v = .slice ad l.length cap ∧ HasB w ad l := by
  rcases h.2 with ⟨rfl, h0⟩ | ⟨g, cap, cur, rfl, -, hg, -, -, -, htake⟩
  · exact ⟨none, 0, by rw [h0], .inl (List.length_eq_zero_iff.1 h0)⟩
  · refine ⟨some ⟨g, 0, none⟩, cap, rfl, .inr ⟨g, 0, rfl, (Array.getElem?_eq_some_iff.1 hg).1, fun i hi => ?_⟩⟩
    have hc := h.cells (g := g) rfl i (.int .u8 (iv l[i])) (by simp [bcells, hi])
    have hadd : (⟨g, 0, none⟩ : Addr).add i = ⟨g, 0 + i, none⟩ := by unfold Addr.add; split <;> simp_all
    rwa [hadd] at hc
set_option maxRecDepth 100000 in
set_option maxHeartbeats 4000000 in
theorem ScanCuts_walk (a : Option Addr) (cap : Nat) (l : List UInt8) (s : ByteArray) (w : World) (hb : HasB w a l) (hlc : l.length ≤ cap) (hr : cap ≤ 140737488351232) (hs : s.size ≤ 140737488351232) :
    Calls Try.prog 8 #[.slice a l.length cap, .string s] w fun e w' => e = .returned (.bool true) ∧ Below w.heap.size w w' := by
  have CN := Lib.hid (new_any w a l cap hlc hr hb)
  have HB := Lib.hid hb
  have hll : l.length ≤ 140737488351232 := by omega
  clear hb
  go_enter Try.func8, Try.ntmps8
  go_wp2_with fail
  refine CN.out.mono ?_; rintro e w1 ⟨c, rfl, hcur, hbel, hcw⟩
  have HC1 := Lib.hid hcur
  have HB1 := Lib.hid hbel
  clear hcur hbel
  obtain ⟨B, hBw⟩ : ∃ B, B = w1.heap.size := ⟨_, rfl⟩
  rw [← hBw] at HC1
  have HBW := Lib.hid hBw
  clear hBw
  go_wp2_with fail
  go_loopw [6, 7] (fun v i wr => ∃ (k n : Nat), n ≤ k ∧ k ≤ l.length ∧ i = .int .i64 n ∧ wr.ownsRow B 5 1 v (l.take k).length (bcells (l.take k)) ∧ Cur wr B c l k ∧ Below w.heap.size w wr) (fun _ i _ => l.length + 1 - (intOf i).toNat)
  case atStart => exact ⟨0, 0, by omega, by omega, rfl, World.ownsRow_nil _ _ _ _, HC1.out, HB1.out⟩
  case round =>
    obtain ⟨k, n, hnk, hk, rfl, hown, hcur, hbel⟩ := hrel
    have HO := Lib.hid hown
    have HC := Lib.hid hcur
    have HL := Lib.hid hbel
    have CW := Lib.hid (while_any wr B c l k s hcur (by omega))
    clear hown hcur hbel
    have hin : (n : Int) ≤ (l.length : Int) := by omega
    have CU := Lib.hid (fun w2 hc2 => until_any w2 B c l (k + (piece (bl s) true (l.drop k)).length) s hc2 (by omega))
    have hm1 : k + (piece (bl s) true (l.drop k)).length ≤ l.length := by have := piece_len (bl s) true (l.drop k); simp at this; omega
    have hm2 : k + (piece (bl s) true (l.drop k)).length + (piece (bl s) false (l.drop (k + (piece (bl s) true (l.drop k)).length))).length ≤ l.length := by have := piece_len (bl s) false (l.drop (k + (piece (bl s) true (l.drop k)).length)); simp at this; omega
    have HF1 := Lib.hid (fun i hi => piece_fits (s := bl s) (among := true) (l := l.drop k) (i := i) hi)
    have HF2 := Lib.hid (fun i hi => piece_fits (s := bl s) (among := false) (l := l.drop (k + (piece (bl s) true (l.drop k)).length)) (i := i) hi)
    have HPR := Lib.hid (fun h => piece_two (bl s) (l.drop k) h)
    rw [List.drop_drop] at HPR
    have HT := Lib.hid (take_two l k (piece (bl s) true (l.drop k)).length (piece (bl s) false (l.drop (k + (piece (bl s) true (l.drop k)).length))).length)
    rw [piece_pre, piece_pre] at HT
    generalize hX : piece (bl s) true (l.drop k) = x at *
    generalize hY : piece (bl s) false (l.drop (k + x.length)) = y at *
    clear hX hY
    go_wp2_with fail
    refine CW.out.mono ?_; rintro e w2 ⟨a1, cap1, rfl, hx, hc2, hg2⟩
    have CU2 := Lib.hid (CU.out w2 hc2)
    have HX := Lib.hid hx
    have HG2 := Lib.hid hg2
    clear hx hg2 hc2 CU CW
    go_wp2_with fail
    refine CU2.out.mono ?_; rintro e w3 ⟨a2, cap2, rfl, hy, hc3, hg3⟩
    have hcB : c < B := by obtain ⟨_, _, -, -, -, -, -, -, h7, -⟩ := hc3; exact h7
    have hBr : B ≤ wr.heap.size := by obtain ⟨_, _, -, -, -, -, -, -, -, h8⟩ := HC.out; exact h8
    have HX3 := Lib.hid (HX.out.kept hg3 (fun r hr => by cases hr; omega))
    have HY3 := Lib.hid hy
    have HC3 := Lib.hid hc3
    have HG3 := Lib.hid (grown_trans HG2.out hg3)
    have hlt : ∀ g, u6.ownBlock = some g → B ≤ g ∧ g < wr.heap.size := HO.out.lt
    have HO3 := Lib.hid (HO.out.kept HG3.out (by
      rcases hv : u6.ownBlock with _ | g
      · exact .inl rfl
      · right; intro e; have := (hlt g hv).1; cases e; omega))
    have HW3 := Lib.hid hg3
    clear hy hc3 hg3 hlt CU2 HX
    go_wp2_with fail
    go_loop [32] (fun i => ∃ j : Nat, j ≤ x.length ∧ i = .int .i64 j) (fun i => x.length - (intOf i).toNat)
    case atStart => exact ⟨0, Nat.zero_le _, rfl⟩
    case round =>
      obtain ⟨j, hj, rfl⟩ := hrel
      by_cases hjl : j < x.length
      · obtain ⟨b1, off1, rfl, -, hc1⟩ := HX3.out.has.at hjl
        have hcj := hc1 j hjl
        have hx0 := iv_lo x[j]
        have hx1 := iv_hi x[j]
        have CI := Lib.hid (in_any (iv x[j]) s w3 hx0 hx1 (by omega))
        rw [HF1.out j hjl] at CI
        clear hc1
        generalize iv x[j] = z at *
        go_wp2_with fail
        refine CI.out.mono ?_; rintro e w4 ⟨rfl, rfl⟩
        go_wp2_with fail
        go_round
        case rel => exact ⟨j + 1, by omega, by go_num⟩
        case measure => simp [intOf]; omega
      · go_wp2_with fail
        go_loop [43] (fun i => ∃ j : Nat, j ≤ y.length ∧ i = .int .i64 j) (fun i => y.length - (intOf i).toNat)
        case atStart => exact ⟨0, Nat.zero_le _, rfl⟩
        case round =>
          obtain ⟨j2, hj2, rfl⟩ := hrel
          by_cases hjl2 : j2 < y.length
          · obtain ⟨b1, off1, rfl, -, hc1⟩ := HY3.out.has.at hjl2
            have hcj := hc1 j2 hjl2
            have hx0 := iv_lo y[j2]
            have hx1 := iv_hi y[j2]
            have CI := Lib.hid (in_any (iv y[j2]) s w3 hx0 hx1 (by omega))
            rw [HF2.out j2 hjl2] at CI
            clear hc1
            generalize iv y[j2] = z at *
            go_wp2_with fail
            refine CI.out.mono ?_; rintro e w4 ⟨rfl, rfl⟩
            go_wp2_with fail
            go_round
            case rel => exact ⟨j2 + 1, by omega, by go_num⟩
            case measure => simp [intOf]; omega
          · have hlen1 : (l.take k).length + x.length ≤ 140737488351232 := by simp; omega
            obtain ⟨v1, w4, hr1, ho1, hg1⟩ := run_app_own w3 B u6 (l.take k) a1 x cap1 HO3.out HX3.out.has hlen1 (Nat.le_trans hBr HG3.out.size)
            have hlt : ∀ g, u6.ownBlock = some g → B ≤ g ∧ g < wr.heap.size := HO.out.lt
            have hy4 := HY3.out.kept hg1 (fun r hr => Nat.lt_of_lt_of_le (hlt r hr).2 HG2.out.size)
            have hlen2 : (l.take k ++ x).length + y.length ≤ 140737488351232 := by simp; omega
            have hB4 : B ≤ w4.heap.size := Nat.le_trans hBr (Nat.le_trans HG3.out.size hg1.size)
            obtain ⟨v2, w5, hr2, ho2, hg2⟩ := run_app_own w4 B v1 (l.take k ++ x) a2 y cap2 ho1 hy4.has hlen2 hB4
            have hlt2 : ∀ g, v1.ownBlock = some g → B ≤ g ∧ g < w4.heap.size := ho1.lt
            have hc5 := (HC3.out.kept hg1 (fun r hr => (hlt r hr).1)).kept hg2 (fun r hr => (hlt2 r hr).1)
            have hwB : w.heap.size ≤ B := Nat.le_trans hcw (Nat.le_of_lt hcB)
            have hb5 : Below w.heap.size w w5 := ((HL.out.grown HG3.out HL.out.size (fun r hr => by cases hr; exact hcw)).grown hg1 (Nat.le_trans HL.out.size HG3.out.size) (fun r hr => Nat.le_trans hwB (hlt r hr).1)).grown hg2 (Nat.le_trans hwB hB4) (fun r hr => Nat.le_trans hwB (hlt2 r hr).1)
            rw [HT.out] at ho2
            have HR1 := Lib.hid hr1
            have HR2 := Lib.hid hr2
            have CL := Lib.hid (left_any w5 B c l (k + x.length + y.length) hc5)
            have HC5 := Lib.hid hc5
            have HB5 := Lib.hid hb5
            have HO2 := Lib.hid ho2
            clear hr1 hr2 hc5 hb5 ho2 ho1 hg1 hg2 hlt hlt2 hy4 hlen1 hlen2 hB4 HO3 HX3 HY3 HC3
            go_wp2_with (first | (at_builtin; refine wpList_append_run rfl (.tmp 51) (.tmp 52) _ rfl _ _ _ rfl rfl HR1.out ?_) | (at_builtin; refine wpList_append_run rfl (.tmp 53) (.tmp 54) _ rfl _ _ _ rfl rfl HR2.out ?_))
            refine CL.out.mono ?_; rintro e w6 ⟨rfl, n6, rfl⟩
            by_cases hend : k + x.length + y.length = l.length
            · have hz : ((l.length : Int) - ((k + x.length + y.length : Nat) : Int) == 0) = true := by simp; omega
              have ho := HO2.out
              rw [hend, List.take_length] at ho
              obtain ⟨ad, cp, rfl, hall⟩ := own_form ho
              have CB := Lib.hid (bytes_any (w5.drewN n6) ad a l l cp cap (hall.drewN n6) ((HB.out.below HB5.out).drewN n6))
              have HB6 := Lib.hid (below_go HB5.out (below_drewN (Below.refl _ _) n6))
              rw [beq_self_eq_true] at CB
              clear ho hall hend
              generalize w5.drewN n6 = w6 at *
              go_wp2_with fail
              refine CB.out.mono ?_; rintro e w7 ⟨rfl, rfl⟩
              go_wp2_with fail
              refine (awake_any _).mono ?_; rintro e w8 ⟨rfl, hw8⟩
              go_wp2_with fail
              go_ret
              exact ⟨rfl, below_go HB6.out hw8⟩
            · have hz : ((l.length : Int) - ((k + x.length + y.length : Nat) : Int) == 0) = false := by simp; omega
              have hprog : n + 1 ≤ k + x.length + y.length := by
                have := HPR.out (fun h => by
                  have : (l.drop k).length = 0 := by rw [h]; rfl
                  simp at this; omega)
                omega
              have hkk : k + x.length + y.length ≤ l.length := hm2
              have HO6 := Lib.hid (show (w5.drewN n6).ownsRow B 5 1 v2 (l.take (k + x.length + y.length)).length (bcells (l.take (k + x.length + y.length))) from HO2.out.kept (drewN_grown w5 n6 none) (by rcases v2.ownBlock with _ | g <;> simp))
              have HC6 := Lib.hid (HC5.out.kept (drewN_grown w5 n6 none) (by simp))
              have HB6 := Lib.hid (below_go HB5.out (below_drewN (Below.refl _ _) n6))
              generalize w5.drewN n6 = w6 at *
              go_wp2_with fail
              go_roundw
              case rel => exact ⟨k + x.length + y.length, n + 1, hprog, hkk, by go_num, HO6.out, HC6.out, HB6.out⟩
              case measure => simp [intOf]; omega
end Go.Proofs.Ytcmeijeddjckjaa
