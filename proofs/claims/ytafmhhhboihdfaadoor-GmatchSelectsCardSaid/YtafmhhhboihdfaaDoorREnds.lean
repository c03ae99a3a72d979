/-
  The document's answer: the places to which pieces match. Conditions: those that each theorem names.
-/
import Derived.Test.YtafmhhhboihdfaaDoorLaw3
import Derived.Test.YtafmhhhboihdfaaDoorSet5
import Derived.Test.YtafmhhhboihdfaaDoorTake
import Derived.Deep.RegionLaw
import Derived.Deep.CutBlock
import Derived.Deep.DeepCutAuto
import Derived.Outline
import Derived.BigQuiet
namespace Go.Proofs.YtafmhhhboihdfaaDoor
open Go.RowKit
set_option linter.unusedVariables false
/-- the places behind a piece that is no star, as far as the places up to k tell -/
def nxE (p : Pc) (s : List UInt8) (f : Nat → Bool) (k j : Nat) : Bool := decide (j ≤ k) && stepF p s f j
theorem nxE_keep {p : Pc} {s : List UInt8} {f : Nat → Bool} {k : Nat} (h : stepF p s f (k + 1) = false) (j : Nat) : nxE p s f (k + 1) j = nxE p s f k j := by
  unfold nxE
  by_cases h1 : j ≤ k
  · simp [h1, show j ≤ k + 1 by omega]
  · by_cases h2 : j = k + 1
    · subst h2; simp [h]
    · simp [h1, show ¬ j ≤ k + 1 by omega]
theorem nxE_set {p : Pc} {s : List UInt8} {f : Nat → Bool} {k : Nat} (h : stepF p s f (k + 1) = true) (j : Nat) : nxE p s f (k + 1) j = if j = k + 1 then true else nxE p s f k j := by
  unfold nxE
  by_cases h2 : j = k + 1
  · subst h2; simp [h]
  · rw [if_neg h2]
    by_cases h1 : j ≤ k
    · simp [h1, show j ≤ k + 1 by omega]
    · simp [h1, show ¬ j ≤ k + 1 by omega]
theorem step_hit {p : Pc} {s : List UInt8} {f : Nat → Bool} {k : Nat} (h : p.star = false) (hk : k < s.length) : stepF p s f (k + 1) = (f k && p.hits s[k]) := by
  unfold stepF hitAt
  simp [h, hk]
theorem step_zero {p : Pc} {s : List UInt8} {f : Nat → Bool} (h : p.star = false) : stepF p s f 0 = false := by
  unfold stepF
  simp [h]
theorem or_none {f : Nat → Bool} {k : Nat} (h : ∀ i, i < k → f i = false) {j : Nat} (hj : j < k) : orTo f j = false := by
  cases e : orTo f j with
  | false => rfl
  | true =>
    obtain ⟨i, h1, h2⟩ := (orTo_iff f j).1 e
    rw [h i (by omega)] at h2; cases h2
theorem or_from {f : Nat → Bool} {k : Nat} (h : ∀ i, i < k → f i = false) (hk : f k = true) (j : Nat) : orTo f j = decide (k ≤ j) := by
  by_cases hj : k ≤ j
  · rw [(orTo_iff f j).2 ⟨k, hj, hk⟩]; simp [hj]
  · rw [or_none h (by omega)]; simp [hj]
set_option maxRecDepth 100000 in
set_option maxHeartbeats 3200000 in
theorem rends_any (w : World) (aL : Option Addr) (capL n : Nat) (l : List Pc) (aS : Option Addr) (m capS i : Nat) (s : List UInt8) (hn : l.length = n) (hp : HasP w w.heap.size aL l) (hlc : n ≤ capL) (hc : capL ≤ 9223372036854775807)
    (hs : HasB w aS s) (hm : s.length = m) (hms : m ≤ capS) (mb : m ≤ 1099511627776) (hcs : capS ≤ 9223372036854775807) (hi : i ≤ m) :
    Calls Tryd.prog 37 #[.slice aL n capL, .slice aS m capS, .int .i64 i] w fun e w' => ∃ N, e = .returned (.slice (some ⟨N, 0, none⟩) (m + 1) (m + 1)) ∧ w.heap.size ≤ N ∧ NowAt w' N (m + 1) (endsF l s i) ∧ Below w.heap.size w w' := by
  obtain ⟨C, hmk, hnew⟩ := make_now w m (by omega)
  have hbw : Below w.heap.size w (w.alloc (.cells C 4)) := (Below.refl _ _).alloc (Nat.le_refl _) _
  generalize w.alloc (.cells C 4) = W1 at *
  have HP := Lib.hid hp
  have HLN := Lib.hid hn
  have HS := Lib.hid hs
  have HM := Lib.hid hm
  have HB1 := Lib.hid (hbw.setCell (p := ⟨w.heap.size, i, none⟩) (Nat.le_refl _) (.bool true))
  have HN1 := Lib.hid ((hnew.set i true).eq (g := fun k => decide (k = i)) (fun j hj => by by_cases h : j = i <;> simp [h]))
  obtain ⟨n0, z0⟩ := hnew.cell (j := i) (by omega)
  have hi1 : (i : Int) < (m : Int) + 1 := by omega
  have hi0 : (0 : Int) ≤ (i : Int) := by omega
  clear hp hn hs hm hnew hbw
  go_enter Tryd.func37, Tryd.ntmps37
  go_wp2_with fail
  clear n0 z0 hmk hi1 hi0
  have HW0 := Lib.hid (show w.heap.size ≤ w.heap.size from Nat.le_refl _)
  generalize W1.setCell ⟨w.heap.size, i, none⟩ (.bool true) = W0 at *
  go_loopw [7, 23] (fun v x wr => ∃ q N : Nat, v = .slice (some ⟨N, 0, none⟩) (m + 1) (m + 1) ∧ x = .int .i64 q ∧ q ≤ n ∧ w.heap.size ≤ N ∧ NowAt wr N (m + 1) (endsF (l.take q) s i) ∧ Below w.heap.size w wr) (fun _ x _ => n - (intOf x).toNat)
  case atStart => exact ⟨0, w.heap.size, rfl, rfl, by omega, Nat.le_refl _, HN1.out, HB1.out⟩
  case round =>
    obtain ⟨q, N, rfl, rfl, hqn, hwN, hnow, hbel⟩ := hrel
    have HNW := Lib.hid hnow
    have HB := Lib.hid hbel
    clear hnow hbel HN1 HB1
    by_cases hlt : q < n
    · have hltI : (q : Int) < n := by omega
      have hq0 : (0 : Int) ≤ (q : Int) := by omega
      have hql : q < l.length := by rw [HLN.out]; exact hlt
      rcases HP.out with hS | ⟨b, off, rfl, hbB, hBs, hcs'⟩
      · rw [hS] at hql; simp at hql
      obtain ⟨q0, q1, q2, q3, q4⟩ := hcs' q hql
      have hqq : ∀ o, wr.cell? ⟨b, o, none⟩ = w.cell? ⟨b, o, none⟩ := fun o => HB.out.cell (p := ⟨b, o, none⟩) hbB
      rw [← hqq] at q0 q1 q2 q3 q4
      have HES := Lib.hid (show endsF (l.take (q + 1)) s i = stepF l[q] s (endsF (l.take q) s i) by rw [take_one' l q hql, endsF_snoc])
      clear hqq hcs'
      generalize l[q] = T at *
      generalize endsF (l.take q) s i = f at *
      have hTa := heap_alloc_new wr (.cells #[.int .i64 T.kind, .int .u64 (wd T.set 0), .int .u64 (wd T.set 1), .int .u64 (wd T.set 2), .int .u64 (wd T.set 3)] 70)
      have HPC0 := Lib.hid (show PcAt (wr.alloc (.cells #[.int .i64 T.kind, .int .u64 (wd T.set 0), .int .u64 (wd T.set 1), .int .u64 (wd T.set 2), .int .u64 (wd T.set 3)] 70)) wr.heap.size T from hTa)
      have HNA := Lib.hid (HNW.out.kept (alloc_grown wr (.cells #[.int .i64 T.kind, .int .u64 (wd T.set 0), .int .u64 (wd T.set 1), .int .u64 (wd T.set 2), .int .u64 (wd T.set 3)] 70) none) (by simp))
      have HBA := Lib.hid (HB.out.alloc HB.out.size (.cells #[.int .i64 T.kind, .int .u64 (wd T.set 0), .int .u64 (wd T.set 1), .int .u64 (wd T.set 2), .int .u64 (wd T.set 3)] 70))
      have HSZ := Lib.hid (show (wr.alloc (.cells #[.int .i64 T.kind, .int .u64 (wd T.set 0), .int .u64 (wd T.set 1), .int .u64 (wd T.set 2), .int .u64 (wd T.set 3)] 70)).heap.size = wr.heap.size + 1 by simp)
      obtain ⟨C', hmk, hnew⟩ := make_now (wr.alloc (.cells #[.int .i64 T.kind, .int .u64 (wd T.set 0), .int .u64 (wd T.set 1), .int .u64 (wd T.set 2), .int .u64 (wd T.set 3)] 70)) m (by omega)
      rw [HSZ.out] at hmk hnew
      have HBN := Lib.hid (HBA.out.alloc HBA.out.size (.cells C' 4))
      have HNN := Lib.hid (HNA.out.kept (alloc_grown (wr.alloc (.cells #[.int .i64 T.kind, .int .u64 (wd T.set 0), .int .u64 (wd T.set 1), .int .u64 (wd T.set 2), .int .u64 (wd T.set 3)] 70)) (.cells C' 4) none) (by simp))
      have HPC := Lib.hid (HPC0.out.kept (alloc_grown (wr.alloc (.cells #[.int .i64 T.kind, .int .u64 (wd T.set 0), .int .u64 (wd T.set 1), .int .u64 (wd T.set 2), .int .u64 (wd T.set 3)] 70)) (.cells C' 4) none) (by simp))
      generalize (wr.alloc (.cells #[.int .i64 T.kind, .int .u64 (wd T.set 0), .int .u64 (wd T.set 1), .int .u64 (wd T.set 2), .int .u64 (wd T.set 3)] 70)).alloc (.cells C' 4) = WB at *
      have HNM := Lib.hid hnew
      have hNr := HNW.out.lt
      have hwr := HB.out.size
      have hNM : N ≠ wr.heap.size + 1 := by omega
      have hPM : wr.heap.size ≠ wr.heap.size + 1 := by omega
      have hwM : w.heap.size ≤ wr.heap.size + 1 := by omega
      have hwP : w.heap.size ≤ wr.heap.size := by omega
      clear hTa hnew HPC0 HNA HBA
      go_wp2_with fail
      clear hmk q0 q1 q2 q3 q4
      generalize wr.heap.size + 1 = M at *
      generalize wr.heap.size = P at *
      by_cases hst : T.kind = 3
      · have hstar : T.star = true := by unfold Pc.star; simpa using hst
        have HST := Lib.hid hstar
        have hst' : (T.kind == 3) = true := by simpa using hst
        clear hst hstar
        go_loopw [33] (fun kv wx => ∃ k : Nat, kv = .int .i64 k ∧ k ≤ m + 1 ∧ (∀ i, i < k → f i = false) ∧ NowAt wx M (m + 1) (fun _ => false) ∧ NowAt wx N (m + 1) f ∧ PcAt wx P T ∧ Below w.heap.size w wx) (fun kv _ => m + 1 - (intOf kv).toNat)
        case atStart => exact ⟨0, rfl, by omega, fun i hi => by omega, HNM.out, HNN.out, HPC.out, HBN.out⟩
        case round =>
          obtain ⟨k, rfl, hkm, hoff, h1, h2, h3, h4⟩ := hrel
          have HNM1 := Lib.hid h1
          have HNN1 := Lib.hid h2
          have HPC1 := Lib.hid h3
          have HBN1 := Lib.hid h4
          have HOFF := Lib.hid hoff
          clear h1 h2 h3 h4 hoff HNM HNN HPC HBN
          by_cases hk : k < m + 1
          · have hkI : (k : Int) < (m : Int) + 1 := by omega
            have hk0 : (0 : Int) ≤ (k : Int) := by omega
            obtain ⟨nk, -⟩ := HNN1.out.cell (j := k) hk
            obtain ⟨pk, -⟩ := HPC1.out.cells
            by_cases hf : f k = true
            · rw [hf] at nk
              have HF := Lib.hid hf
              clear hf
              go_wp2_with fail
              go_loopw [13] (fun jv wy => ∃ j : Nat, jv = .int .i64 j ∧ k ≤ j ∧ j ≤ m + 1 ∧ NowAt wy M (m + 1) (fun x => decide (k ≤ x ∧ x < j)) ∧ Below w.heap.size w wy) (fun jv _ => m + 1 - (intOf jv).toNat)
              case atStart => exact ⟨k, rfl, Nat.le_refl _, by omega, HNM1.out.eq fun x hx => decide_eq_false (by omega), HBN1.out⟩
              case round =>
                obtain ⟨j, rfl, hkj, hjm, h1, h2⟩ := hrel
                have HNM2 := Lib.hid h1
                have HBN2 := Lib.hid h2
                clear h1 h2 HNM1 HBN1 nk pk
                by_cases hj : j < m + 1
                · have hjI : (j : Int) ≤ (m : Int) := by omega
                  have hjI' : (j : Int) < (m : Int) + 1 := by omega
                  have hj0 : (0 : Int) ≤ (j : Int) := by omega
                  obtain ⟨nj, zj⟩ := HNM2.out.cell (j := j) hj
                  go_wp2_with fail
                  go_roundw
                  case rel =>
                    refine ⟨j + 1, rfl, by omega, by omega, (HNM2.out.set j true).eq fun x hx => ?_, HBN2.out.setCell (p := ⟨M, j, none⟩) (by assumption) _⟩
                    by_cases e : x = j
                    · rw [if_pos e]; exact decide_eq_true (by omega)
                    · rw [if_neg e, decide_eq_decide]; omega
                  case measure => simp [intOf]; omega
                · have hjI : ¬ (j : Int) ≤ (m : Int) := by omega
                  go_wp2_with fail
                  go_roundw
                  case rel =>
                    refine ⟨q + 1, M, rfl, rfl, by omega, by omega, ?_, HBN2.out⟩
                    rw [HES.out]
                    refine HNM2.out.eq fun x hx => ?_
                    unfold stepF
                    rw [if_pos HST.out, or_from HOFF.out HF.out, decide_eq_decide]; omega
                  case measure => simp [intOf]; omega
            · have hf' : f k = false := by simpa using hf
              rw [hf'] at nk
              have HF := Lib.hid hf'
              clear hf hf'
              go_wp2_with fail
              go_roundw
              case rel =>
                refine ⟨k + 1, rfl, by omega, fun i hi => ?_, HNM1.out, HNN1.out, HPC1.out, HBN1.out⟩
                by_cases e : i = k
                · subst e; exact HF.out
                · exact HOFF.out i (by omega)
              case measure => simp [intOf]; omega
          · have hkI : ¬ (k : Int) < (m : Int) + 1 := by omega
            go_wp2_with fail
            go_roundw
            case rel =>
              refine ⟨q + 1, M, rfl, rfl, by omega, by omega, ?_, HBN1.out⟩
              rw [HES.out]
              refine HNM1.out.eq fun j hj => ?_
              unfold stepF
              rw [if_pos HST.out, or_none HOFF.out (by omega)]
            case measure => simp [intOf]; omega
      · have hstar : T.star = false := by unfold Pc.star; simpa using hst
        have HST := Lib.hid hstar
        have hst' : (T.kind == 3) = false := by simpa using hst
        clear hst hstar
        go_loopw [33] (fun kv wx => ∃ k : Nat, kv = .int .i64 k ∧ k ≤ m + 1 ∧ NowAt wx M (m + 1) (nxE T s f k) ∧ NowAt wx N (m + 1) f ∧ PcAt wx P T ∧ Below w.heap.size w wx) (fun kv _ => m + 1 - (intOf kv).toNat)
        case atStart =>
          refine ⟨0, rfl, by omega, HNM.out.eq fun j hj => ?_, HNN.out, HPC.out, HBN.out⟩
          unfold nxE
          by_cases e : j = 0
          · subst e; rw [step_zero HST.out]; simp
          · simp [show ¬ j ≤ 0 by omega]
        case round =>
          obtain ⟨k, rfl, hkm, h1, h2, h3, h4⟩ := hrel
          have HNM1 := Lib.hid h1
          have HNN1 := Lib.hid h2
          have HPC1 := Lib.hid h3
          have HBN1 := Lib.hid h4
          clear h1 h2 h3 h4 HNM HNN HPC HBN
          by_cases hk : k < m + 1
          · have hkI : (k : Int) < (m : Int) + 1 := by omega
            have hk0 : (0 : Int) ≤ (k : Int) := by omega
            obtain ⟨nk, -⟩ := HNN1.out.cell (j := k) hk
            obtain ⟨pk0, pk1, pk2, pk3, pk4, -⟩ := HPC1.out.cells
            by_cases hf : f k = true
            · rw [hf] at nk
              have HF := Lib.hid hf
              clear hf
              by_cases hkl : k < m
              · have hkl' : (k : Int) < (m : Int) := by omega
                have hk1I : (k : Int) + 1 < (m : Int) + 1 := by omega
                have hk10 : (0 : Int) ≤ (k : Int) + 1 := by omega
                have hks : k < s.length := by rw [HM.out]; exact hkl
                rcases HS.out.below HBN1.out with hE | ⟨bs, os, rfl, hbs, hxs⟩
                · rw [hE] at hks; simp at hks
                have ck := hxs k hks
                have HHT := Lib.hid (show stepF T s f (k + 1) = T.hits s[k] by rw [step_hit HST.out hks, HF.out, Bool.true_and])
                obtain ⟨nk1, zk1⟩ := HNM1.out.cell (j := k + 1) (by omega)
                generalize s[k] = c at *
                clear hxs
                by_cases h2 : T.kind = 2
                · have h2' : (T.kind == 2) = true := by simpa using h2
                  have HH := Lib.hid (show T.hits c = true by unfold Pc.hits; rw [h2']; rfl)
                  clear h2 pk1 pk2 pk3 pk4
                  have hm' : (c.toNat : Int) ≤ 255 := by have := c.toNat_lt; omega
                  go_wp2_with fail
                  go_quiet (fail)
                  have HNM2 := Lib.hid (HNM1.out.kept (drewN_grown wr nq none) (by simp))
                  have HNN2 := Lib.hid (HNN1.out.kept (drewN_grown wr nq none) (by simp))
                  have HPC2 := Lib.hid (HPC1.out.kept (drewN_grown wr nq none) (by simp))
                  have HBN2 := Lib.hid (HBN1.out.trans (⟨rfl, rfl, rfl, Nat.le_refl _, fun _ _ => rfl⟩ : Below w.heap.size wr (wr.drewN nq)))
                  clear HNM1 HNN1 HPC1 HBN1
                  generalize wr.drewN nq = W2 at *
                  obtain ⟨nk1, zk1⟩ := HNM2.out.cell (j := k + 1) (by omega)
                  go_wp2_with fail
                  go_roundw
                  case rel =>
                    refine ⟨k + 1, rfl, by omega, (HNM2.out.set (k + 1) true).eq fun x hx => nxE_set (by rw [HHT.out, HH.out]) x, HNN2.out.kept (grown_setCell _ _ _ _) (by intro e; exact hNM (Option.some.inj e).symm), HPC2.out.kept (grown_setCell _ _ _ _) (by intro e; exact hPM (Option.some.inj e).symm), HBN2.out.setCell (p := ⟨M, k + 1, none⟩) (by assumption) _⟩
                  case measure => simp [intOf]; omega
                · have h2' : (T.kind == 2) = false := by simpa using h2
                  have HH := Lib.hid (show T.hits c = T.set.getLsbD c.toNat by unfold Pc.hits; rw [h2']; rfl)
                  have HC := Lib.hid (fun W => rhas_any T.set c.toNat W (by have := c.toNat_lt; omega))
                  unfold setV wv at HC
                  change Hid (∀ W, Calls Tryd.prog 57 #[.agg #[.int .u64 (wd T.set 0), .int .u64 (wd T.set 1), .int .u64 (wd T.set 2), .int .u64 (wd T.set 3)], .int .u8 (iv c)] W _) at HC
                  clear h2
                  go_upto_region 16 with fail
                  have HNMd := Lib.hid (HNM1.out.kept (drew_grown wr none) (by simp))
                  have HNNd := Lib.hid (HNN1.out.kept (drew_grown wr none) (by simp))
                  have HPCd := Lib.hid (HPC1.out.kept (drew_grown wr none) (by simp))
                  have HBNd := Lib.hid (HBN1.out.trans (⟨rfl, rfl, rfl, Nat.le_refl _, fun _ _ => rfl⟩ : Below w.heap.size wr wr.drew))
                  have ckd : wr.drew.cell? ⟨bs, os + k, none⟩ = some (.int .u8 (iv c)) := ck
                  clear HNM1 HNN1 HPC1 HBN1 nk nk1 zk1 pk0 pk1 pk2 pk3 pk4 ck
                  obtain ⟨pk0, pk1, pk2, pk3, pk4, -⟩ := HPCd.out.cells
                  go_region_law (first
                    | (go_simp; go_at_call_of 57 (Value.int .u8 (iv c)); refine (HC.out _).mono ?_; rintro e w8 ⟨rfl, b8⟩; have HNM2 := Lib.hid (HNMd.out.below b8 HNMd.out.lt); have HNN2 := Lib.hid (HNNd.out.below b8 HNNd.out.lt); have HPC2 := Lib.hid (HPCd.out.below b8 (Array.getElem?_eq_some_iff.1 HPCd.out).1); have HBN2 := Lib.hid (HBNd.out.trans (b8.mono HBNd.out.size)); clear b8))
                  all_goals
                    clear HNMd HNNd HPCd HBNd ckd pk0 pk1 pk2 pk3 pk4 HC
                    obtain ⟨nk1, zk1⟩ := HNM2.out.cell (j := k + 1) (by omega)
                    by_cases hbit : T.set.getLsbD c.toNat = true
                    · rw [hbit] at HH
                      rw [hbit]
                      clear hbit
                      go_wp2_with fail
                      go_roundw
                      case rel =>
                        refine ⟨k + 1, rfl, by omega, (HNM2.out.set (k + 1) true).eq fun x hx => nxE_set (by rw [HHT.out, HH.out]) x, HNN2.out.kept (grown_setCell _ _ _ _) (by intro e; exact hNM (Option.some.inj e).symm), HPC2.out.kept (grown_setCell _ _ _ _) (by intro e; exact hPM (Option.some.inj e).symm), HBN2.out.setCell (p := ⟨M, k + 1, none⟩) (by assumption) _⟩
                      case measure => simp [intOf]; omega
                    · have hbit' : T.set.getLsbD c.toNat = false := by simpa using hbit
                      rw [hbit'] at HH
                      rw [hbit']
                      clear hbit hbit'
                      go_wp2_with fail
                      go_roundw
                      case rel =>
                        refine ⟨k + 1, rfl, by omega, HNM2.out.eq fun x hx => nxE_keep (by rw [HHT.out, HH.out]) x, HNN2.out, HPC2.out, HBN2.out⟩
                      case measure => simp [intOf]; omega
              · have hkl' : ¬ (k : Int) < (m : Int) := by omega
                clear pk1 pk2 pk3 pk4
                go_wp2_with fail
                go_quiet (fail)
                have HNM2 := Lib.hid (HNM1.out.kept (drewN_grown wr nq none) (by simp))
                have HNN2 := Lib.hid (HNN1.out.kept (drewN_grown wr nq none) (by simp))
                have HPC2 := Lib.hid (HPC1.out.kept (drewN_grown wr nq none) (by simp))
                have HBN2 := Lib.hid (HBN1.out.trans (⟨rfl, rfl, rfl, Nat.le_refl _, fun _ _ => rfl⟩ : Below w.heap.size wr (wr.drewN nq)))
                clear HNM1 HNN1 HPC1 HBN1
                generalize wr.drewN nq = W2 at *
                go_wp2_with fail
                go_roundw
                case rel =>
                  refine ⟨k + 1, rfl, by omega, HNM2.out.eq fun x hx => ?_, HNN2.out, HPC2.out, HBN2.out⟩
                  unfold nxE
                  rw [show decide (x ≤ k + 1) = decide (x ≤ k) by rw [decide_eq_decide]; omega]
                case measure => simp [intOf]; omega
            · have hf' : f k = false := by simpa using hf
              rw [hf'] at nk
              have HF := Lib.hid hf'
              clear hf hf'
              go_wp2_with fail
              go_roundw
              case rel =>
                refine ⟨k + 1, rfl, by omega, HNM1.out.eq fun x hx => ?_, HNN1.out, HPC1.out, HBN1.out⟩
                by_cases e : k < s.length
                · exact nxE_keep (by rw [step_hit HST.out e, HF.out]; rfl) x
                · unfold nxE
                  rw [show decide (x ≤ k + 1) = decide (x ≤ k) by rw [decide_eq_decide]; rw [HM.out] at e; omega]
              case measure => simp [intOf]; omega
          · have hkI : ¬ (k : Int) < (m : Int) + 1 := by omega
            go_wp2_with fail
            go_roundw
            case rel =>
              refine ⟨q + 1, M, rfl, rfl, by omega, by omega, ?_, HBN1.out⟩
              rw [HES.out]
              refine HNM1.out.eq fun j hj => ?_
              unfold nxE
              simp [show j ≤ k by omega]
            case measure => simp [intOf]; omega
    · have hltI : ¬ (q : Int) < n := by omega
      obtain rfl : q = n := by omega
      have HE := Lib.hid (show l.take q = l by rw [← HLN.out, List.take_length])
      go_wp2_with fail
      go_ret
      refine ⟨N, rfl, hwN, ?_, HB.out⟩
      have := HNW.out
      rw [HE.out] at this
      exact this
end Go.Proofs.YtafmhhhboihdfaaDoor
