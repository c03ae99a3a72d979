/-
  Cursors: pass, While, Until. Conditions: those that each theorem names.
-/
import Derived.Test.YtcmeijeddjckjaaCur3
import Derived.Deep.LoopGhost
import Derived.StillTailTactics
namespace Go.Proofs.Ytcmeijeddjckjaa
open Go.RowKit
set_option linter.unusedVariables false
def fits (s : List UInt8) (among : Bool) (c : UInt8) : Bool := isin (iv c) s == among
def piece (s : List UInt8) (among : Bool) (l : List UInt8) : List UInt8 := l.takeWhile (fits s among)
theorem piece_at {s : List UInt8} {among : Bool} {l : List UInt8} {k j : Nat} (hkj : k ≤ j) (hj : j ≤ l.length) (h : ∀ i (hi : i < l.length), k ≤ i → i < j → fits s among l[i] = true) (he : ∀ (hi : j < l.length), fits s among l[j] = false) :
    piece s among (l.drop k) = (l.drop k).take (j - k) := by
  refine takeWhile_at _ _ _ (by simp; omega) (fun i hi hik => ?_) (fun hi => ?_)
  · rw [List.getElem_drop]
    exact h _ (by simp at hi; omega) (by omega) (by omega)
  · rw [List.getElem_drop]
    have := he (by simp at hi; omega)
    rw [← this]; congr 2; omega
theorem HasB.take {w : World} {a : Option Addr} {l : List UInt8} (h : HasB w a l) (m : Nat) : HasB w a (l.take m) := by
  rcases h with rfl | ⟨b, off, h1, h2, h3⟩
  · exact .inl (by simp)
  · exact .inr ⟨b, off, h1, h2, fun i hi => by
      have := h3 i (by simp at hi; omega)
      simpa using this⟩
theorem run_app_nil_n (w : World) (a : Option Addr) (l : List UInt8) (n cap : Nat) (hn : l.length = n) (hb : HasB w a l) (hl : l.length ≤ 140737488351232) :
    ∃ a' cap' w', (Builtin.append_ #[22, 22] 22 #[.slice none 0 0, .slice a n cap]).run Try.prog w = .ok (.slice a' l.length cap') w' ∧ OwnB w' w.heap.size a' l ∧ l.length ≤ cap' ∧ cap' ≤ maxLen ∧ ∀ row, w.grownBy w' row := by
  subst hn; exact run_app_nil w a l cap hb hl
theorem drew_grown (w : World) (row : Option Nat) : w.grownBy w.drew row := ⟨rfl, rfl, rfl, Nat.le_refl _, fun k hk _ => rfl⟩
theorem HasB.drew {w : World} {a : Option Addr} {l : List UInt8} (h : HasB w a l) : HasB w.drew a l := by
  rcases h with h | ⟨b, off, h1, h2, h3⟩
  · exact .inl h
  · exact .inr ⟨b, off, h1, h2, fun i hi => h3 i hi⟩
theorem OwnB.mono {w : World} {B B' : Nat} {a : Option Addr} {l : List UInt8} (h : OwnB w B a l) (hB : B' ≤ B) : OwnB w B' a l := by
  rcases h with h | ⟨b, off, h1, h2, h3, h4⟩
  · exact .inl h
  · exact .inr ⟨b, off, h1, by omega, h3, h4⟩
set_option maxHeartbeats 2000000 in
theorem pass_any (w : World) (B c : Nat) (l : List UInt8) (k : Nat) (s : ByteArray) (among : Bool) (h : Cur w B c l k) (hs : s.size ≤ 9223372036854775807) :
    Calls Try.prog 41 #[.pointer (some ⟨c, 0, none⟩), .string s, .bool among] w fun e w' => ∃ a' cap', e = .returned (.slice a' (piece (bl s) among (l.drop k)).length cap') ∧
      OwnB w' w.heap.size a' (piece (bl s) among (l.drop k)) ∧ Cur w' B c l (k + (piece (bl s) among (l.drop k)).length) ∧ w.grownBy w' (some c) := by
  have H := Lib.hid h
  have hk : k ≤ l.length := by obtain ⟨_, _, -, -, h3, -⟩ := h; exact h3
  have hll : l.length ≤ 140737488351232 := by obtain ⟨_, _, -, -, -, h4, -⟩ := h; exact h4
  have c1 : w.cell? ⟨c, 1, none⟩ = some (.int .i64 k) := by obtain ⟨_, _, h1, -⟩ := h; rw [World.cell?, h1]; rfl
  clear h
  go_enter Try.func41, Try.ntmps41
  go_wp2_with fail
  go_step3
  go_wp2_with fail
  go_step3
  go_wp2_with fail
  clear c1
  go_loopg [8] (l.length - k) (fun g _ wr => ∃ j : Nat, k ≤ j ∧ j ≤ l.length ∧ g = l.length - j ∧ (∀ i (hi : i < l.length), k ≤ i → i < j → fits (bl s) among l[i] = true) ∧ Cur wr B c l j ∧ w.grownBy wr (some c))
  case atStart => exact ⟨k, Nat.le_refl _, hk, rfl, fun i hi h1 h2 => by omega, H.out, ⟨rfl, rfl, rfl, Nat.le_refl _, fun _ _ _ => rfl⟩⟩
  case round =>
    obtain ⟨j, hkj, hj, rfl, hall, hcur, hgr⟩ := hrel
    have HA := Lib.hid hall; clear hall
    have HC := Lib.hid hcur
    have HG := Lib.hid hgr; clear hgr
    have CP := Lib.hid (peek_any wr B c l j hcur)
    by_cases hlt : j < l.length
    · have hd : decide (j < l.length) = true := by simpa using hlt
      rw [hd, bat_in hlt] at CP
      clear hd
      have hx0 := iv_lo l[j]
      have hx1 := iv_hi l[j]
      have CI := Lib.hid (fun w => index_any (iv l[j]) s w hx0 hx1)
      have HF := Lib.hid (show fits (bl s) among l[j] = (isin (iv l[j]) (bl s) == among) from rfl)
      have HO := Lib.hid (fun (he : fits (bl s) among l[j] = false) => piece_at hkj hj HA.out (fun _ => he))
      have HN := Lib.hid (show fits (bl s) among l[j] = true → ∀ i (hi : i < l.length), k ≤ i → i < j + 1 → fits (bl s) among l[i] = true by
        intro hf i hi h1 h2
        rcases Nat.lt_or_ge i j with h3 | h3
        · exact HA.out i hi h1 h3
        · obtain rfl : i = j := by omega
          exact hf)
      generalize fits (bl s) among l[j] = ft at *
      generalize iv l[j] = x at *
      generalize isin x (bl s) = b at *
      obtain ⟨a, cap, h1, -⟩ := hcur
      have c1 : ∀ n, (wr.drewN n).cell? ⟨c, 1, none⟩ = some (.int .i64 j) := fun n => by show wr.cell? _ = _; rw [World.cell?, h1]; rfl
      have f1 : ∀ n, (wr.drewN n).frozen? ⟨c, 1, none⟩ = false := fun n => by show wr.frozen? _ = _; rw [World.frozen?, h1]; rfl
      clear h1
      cases ft with
      | true =>
        have hb := HF.out.symm
        have HN' := Lib.hid (HN.out rfl)
        go_wp2_with fail
        refine CP.out.mono ?_; rintro e w' ⟨rfl, n, rfl⟩
        go_wp2_with fail
        refine (CI.out _).mono ?_; rintro e w' ⟨r, rfl, hr, hr1, rfl⟩
        have c1' := c1 n
        have f1' := f1 n
        have HM := Lib.hid ((HC.out.kept (drewN_grown wr n none) (by simp)).moved (j + 1) (by omega))
        have HG' := Lib.hid (grown_trans (grown_trans HG.out (drewN_grown wr n (some c))) (grown_setCell (wr.drewN n) c 1 (.int .i64 ((j + 1 : Nat) : Int))))
        clear c1 f1
        generalize wr.drewN n = w1 at *
        go_wp2_with fail
        go_roundg (l.length - (j + 1))
        case measure => omega
        case rel => exact ⟨j + 1, by omega, by omega, rfl, HN'.out, HM.out, HG'.out⟩
      | false =>
        have hb := HF.out.symm
        have HP := Lib.hid (HO.out rfl)
        go_wp2_with fail
        refine CP.out.mono ?_; rintro e w' ⟨rfl, n, rfl⟩
        go_wp2_with fail
        refine (CI.out _).mono ?_; rintro e w' ⟨r, rfl, hr, hr1, rfl⟩
        go_wp2_with fail
        have hC1 := HC.out.kept (drewN_grown wr n none) (by simp)
        have HG1 := Lib.hid (grown_trans HG.out (drewN_grown wr n (some c)))
        clear c1 f1
        generalize wr.drewN n = w1 at *
        have HC1 := Lib.hid hC1
        obtain ⟨a, cap, h1, h2, h3, h4, h5, h6, -⟩ := hC1
        have hbb : HasB w1 a l := by
          rcases h2 with h2 | ⟨b, off, ha, -, -, hc⟩
          · exact .inl h2
          · rcases Nat.eq_zero_or_pos l.length with h0 | h0
            · exact .inl (List.length_eq_zero_iff.1 h0)
            · exact .inr ⟨b, off, ha, World.block_lt_of_cell? w1 _ (hc 0 h0), hc⟩
        have c0 : w1.cell? ⟨c, 0, none⟩ = some (.slice a l.length cap) := by rw [World.cell?, h1]; rfl
        have c1 : w1.cell? ⟨c, 1, none⟩ = some (.int .i64 j) := by rw [World.cell?, h1]; rfl
        have hsl := fun w => run_slice_mid a l.length cap k j w hkj (by omega)
        have hpl : ((l.drop k).take (j - k)).length = j - k := by simp; omega
        obtain ⟨a', cap', w2, happ, hown, -, -, hg2⟩ := run_app_nil_n w1.drew (adrop a cap k) ((l.drop k).take (j - k)) (j - k) (cap - k) hpl (((hbb.adrop h5 k).take (j - k)).drew) (by omega)
        rw [hpl] at happ
        have HA' := Lib.hid happ
        have HO' := Lib.hid hown
        have HG2 := Lib.hid hg2
        have HPL := Lib.hid hpl
        clear h1 h2 happ hown hg2 hpl hbb
        generalize adrop a cap k = a2 at *
        go_still_tail 10, (by kernel_rfl)
        change wpList _ _ _ _ _ w1.drew
        go_wp2_with (at_builtin; refine wpList_append_run rfl _ _ _ rfl _ _ _ rfl rfl HA'.out ?_)
        rw [Exit.noGoto_ret]
        go_ret
        have hgg := HG1.out
        rw [HP.out, HPL.out]
        exact ⟨a', cap', rfl, HO'.out.mono (hgg.size), by rw [Nat.add_sub_cancel' hkj]; exact HC1.out.kept (grown_trans (drew_grown w1 none) (HG2.out none)) (by simp), grown_trans (grown_trans hgg (drew_grown w1 _)) (HG2.out _)⟩
    · have hd : decide (j < l.length) = false := by simpa using hlt
      rw [hd, bat_out hlt] at CP
      have HP := Lib.hid (piece_at hkj hj HA.out (fun h => absurd h hlt))
      clear hcur hd
      go_wp2_with fail
      refine CP.out.mono ?_; rintro e w' ⟨rfl, n, rfl⟩
      go_wp2_with fail
      have hC1 := HC.out.kept (drewN_grown wr n none) (by simp)
      have HG1 := Lib.hid (grown_trans HG.out (drewN_grown wr n (some c)))
      generalize wr.drewN n = w1 at *
      have HC1 := Lib.hid hC1
      obtain ⟨a, cap, h1, h2, h3, h4, h5, h6, -⟩ := hC1
      have hbb : HasB w1 a l := by
        rcases h2 with h2 | ⟨b, off, ha, -, -, hc⟩
        · exact .inl h2
        · rcases Nat.eq_zero_or_pos l.length with h0 | h0
          · exact .inl (List.length_eq_zero_iff.1 h0)
          · exact .inr ⟨b, off, ha, World.block_lt_of_cell? w1 _ (hc 0 h0), hc⟩
      have c0 : w1.cell? ⟨c, 0, none⟩ = some (.slice a l.length cap) := by rw [World.cell?, h1]; rfl
      have c1 : w1.cell? ⟨c, 1, none⟩ = some (.int .i64 j) := by rw [World.cell?, h1]; rfl
      have hsl := fun w => run_slice_mid a l.length cap k j w hkj (by omega)
      have hpl : ((l.drop k).take (j - k)).length = j - k := by simp; omega
      obtain ⟨a', cap', w2, happ, hown, -, -, hg2⟩ := run_app_nil_n w1.drew (adrop a cap k) ((l.drop k).take (j - k)) (j - k) (cap - k) hpl (((hbb.adrop h5 k).take (j - k)).drew) (by omega)
      rw [hpl] at happ
      have HA' := Lib.hid happ
      have HO' := Lib.hid hown
      have HG2 := Lib.hid hg2
      have HPL := Lib.hid hpl
      clear h1 h2 happ hown hg2 hpl hbb
      generalize adrop a cap k = a2 at *
      go_still_tail 10, (by kernel_rfl)
      change wpList _ _ _ _ _ w1.drew
      go_wp2_with (at_builtin; refine wpList_append_run rfl _ _ _ rfl _ _ _ rfl rfl HA'.out ?_)
      rw [Exit.noGoto_ret]
      go_ret
      have hgg := HG1.out
      rw [HP.out, HPL.out]
      exact ⟨a', cap', rfl, HO'.out.mono (hgg.size), by rw [Nat.add_sub_cancel' hkj]; exact HC1.out.kept (grown_trans (drew_grown w1 none) (HG2.out none)) (by simp), grown_trans (grown_trans hgg (drew_grown w1 _)) (HG2.out _)⟩
end Go.Proofs.Ytcmeijeddjckjaa
