/-
  The run over a subject: done, take. Conditions: those that each theorem names.
-/
import Derived.Test.YtafmhhhboihdfaaDoorRun
import Derived.BigQuiet
import Derived.Deep.OwnRows
import Derived.Laws.OwnMore
namespace Go.Proofs.YtafmhhhboihdfaaDoor
open Go.RowKit
set_option linter.unusedVariables false
set_option maxRecDepth 100000 in
set_option maxHeartbeats 400000 in
theorem done_any (w : World) (r N : Nat) (aL : Option Addr) (capL n : Nat) (f : Nat → Bool) (s : Int) (hr : RunAt w r N aL capL n s) (hN : NowAt w N (n + 1) f) :
    Calls Tryd.prog 31 #[.pointer (some ⟨r, 0, none⟩)] w fun e w' => e = .returned (.bool (f n)) ∧ ∃ m, w' = w.drewN m := by
  have r0 : ∀ m, (w.drewN m).cell? ⟨r, 0, none⟩ = some (.slice aL n capL) := fun m => hr.cells.1
  have r1 : ∀ m, (w.drewN m).cell? ⟨r, 1, none⟩ = some (.slice (some ⟨N, 0, none⟩) (n + 1) (n + 1)) := fun m => hr.cells.2.1
  have n0 : ∀ m, (w.drewN m).cell? ⟨N, n, none⟩ = some (.bool (f n)) := fun m => (hN.cell (by omega)).1
  clear hr hN
  go_enter Tryd.func31, Tryd.ntmps31
  go_wp2_with fail
  go_quiet (fail)
  go_wp2_with fail
  go_ret
  exact ⟨rfl, _, rfl⟩
/-- the set of a piece, by its place -/
def stt (l : List Pc) (i : Nat) : BitVec 256 := (l.getD i ⟨0, 0⟩).set
theorem stt_in {l : List Pc} {i : Nat} (h : i < l.length) : stt l i = l[i].set := by simp [stt, h]
/-- does a piece that is no star match a byte? -/
def hit (l : List Pc) (x i : Nat) : Bool := kd l i == 2 || (stt l i).getLsbD x
/-- the places behind a byte, as far as the pieces before place j tell -/
def nxtTo (l : List Pc) (f : Nat → Bool) (x j : Nat) : Nat → Bool
  | 0 => decide (0 < j) && f 0 && kd l 0 == 3
  | i + 1 => (decide (i + 1 < j) && f (i + 1) && kd l (i + 1) == 3) || (decide (i < j) && f i && !(kd l i == 3) && hit l x i)
theorem nxtTo_succ (l : List Pc) (f : Nat → Bool) (x j i : Nat) : nxtTo l f x j (i + 1) = ((decide (i + 1 < j) && f (i + 1) && kd l (i + 1) == 3) || (decide (i < j) && f i && !(kd l i == 3) && hit l x i)) := rfl
/-- how often a byte is compared, as far as the pieces before place j tell -/
def cntTo (l : List Pc) (f : Nat → Bool) : Nat → Int
  | 0 => 0
  | j + 1 => cntTo l f j + (if f j && !(kd l j == 3) then 1 else 0)
theorem cnt_bd (l : List Pc) (f : Nat → Bool) (j : Nat) : 0 ≤ cntTo l f j ∧ cntTo l f j ≤ j := by
  induction j with
  | zero => exact ⟨Int.le_refl _, Int.le_refl _⟩
  | succ j ih => unfold cntTo; split <;> omega
theorem nxt_keep {l : List Pc} {f : Nat → Bool} {x j : Nat} (h : f j = false ∨ ((kd l j == 3) = false ∧ hit l x j = false)) (i : Nat) : nxtTo l f x (j + 1) i = nxtTo l f x j i := by
  have h1 : ∀ k, (decide (k < j + 1) && f k && kd l k == 3) = (decide (k < j) && f k && kd l k == 3) := fun k => by
    by_cases e : k = j
    · subst e; rcases h with h | ⟨h, -⟩ <;> simp [h]
    · rw [show decide (k < j + 1) = decide (k < j) by rw [decide_eq_decide]; omega]
  have h2 : ∀ k, (decide (k < j + 1) && f k && !(kd l k == 3) && hit l x k) = (decide (k < j) && f k && !(kd l k == 3) && hit l x k) := fun k => by
    by_cases e : k = j
    · subst e; rcases h with h | ⟨-, h⟩ <;> simp [h]
    · rw [show decide (k < j + 1) = decide (k < j) by rw [decide_eq_decide]; omega]
  cases i with
  | zero => exact h1 0
  | succ i => rw [nxtTo_succ, nxtTo_succ, h1, h2]
theorem nxt_star {l : List Pc} {f : Nat → Bool} {x j : Nat} (hf : f j = true) (h : (kd l j == 3) = true) (i : Nat) : nxtTo l f x (j + 1) i = if i = j then true else nxtTo l f x j i := by
  have h1 : ∀ k, (decide (k < j + 1) && f k && kd l k == 3) = if k = j then true else (decide (k < j) && f k && kd l k == 3) := fun k => by
    by_cases e : k = j
    · subst e; simp [h, hf]
    · rw [show decide (k < j + 1) = decide (k < j) by rw [decide_eq_decide]; omega, if_neg e]
  have h2 : ∀ k, (decide (k < j + 1) && f k && !(kd l k == 3) && hit l x k) = (decide (k < j) && f k && !(kd l k == 3) && hit l x k) := fun k => by
    by_cases e : k = j
    · subst e; simp [h]
    · rw [show decide (k < j + 1) = decide (k < j) by rw [decide_eq_decide]; omega]
  cases i with
  | zero => exact h1 0
  | succ i => rw [nxtTo_succ, nxtTo_succ, h1, h2]; split <;> simp
theorem nxt_hit {l : List Pc} {f : Nat → Bool} {x j : Nat} (hf : f j = true) (h : (kd l j == 3) = false) (hh : hit l x j = true) (i : Nat) : nxtTo l f x (j + 1) i = if i = j + 1 then true else nxtTo l f x j i := by
  have h1 : ∀ k, (decide (k < j + 1) && f k && kd l k == 3) = (decide (k < j) && f k && kd l k == 3) := fun k => by
    by_cases e : k = j
    · subst e; simp [h]
    · rw [show decide (k < j + 1) = decide (k < j) by rw [decide_eq_decide]; omega]
  have h2 : ∀ k, (decide (k < j + 1) && f k && !(kd l k == 3) && hit l x k) = if k = j then true else (decide (k < j) && f k && !(kd l k == 3) && hit l x k) := fun k => by
    by_cases e : k = j
    · subst e; simp [h, hf, hh]
    · rw [show decide (k < j + 1) = decide (k < j) by rw [decide_eq_decide]; omega, if_neg e]
  cases i with
  | zero => rw [if_neg (by omega)]; exact h1 0
  | succ i =>
    rw [nxtTo_succ, nxtTo_succ, h1, h2]
    by_cases e : i = j
    · rw [if_pos e, if_pos (by omega), Bool.or_true]
    · rw [if_neg e, if_neg (by omega)]
theorem info4 : (Tryd.prog.info? 4).map (fun i => (i.zero, i.size, i.bytes)) = some (some (.bool false), 1, 1) := by kernel_rfl
theorem make_now (w : World) (n : Nat) (hn : n ≤ 1099511627776) :
    ∃ C, (Instr.makeSlice 58 (.int .i64 ((n : Int) + 1)) (.int .i64 ((n : Int) + 1))).run Tryd.prog w = .ok (.slice (some ⟨w.heap.size, 0, none⟩) (n + 1) (n + 1)) (w.alloc (.cells C 4)) ∧
      NowAt (w.alloc (.cells C 4)) w.heap.size (n + 1) (fun _ => false) := by
  refine ⟨_, run_make_row' (P := Tryd.prog) 58 4 (.bool false) 1 Tryd.underlying58 info4 rfl .i64 .i64 (n + 1) (by omega) (by omega) w, ?_⟩
  refine ⟨_, heap_alloc_new w _, size_madeCells _ _, fun j hj => ?_⟩
  rw [← Array.getElem?_toList, toList_madeCells_one]
  simp [hj]
theorem RunAt.steps {w : World} {r N : Nat} {aL : Option Addr} {capL n : Nat} {s : Int} (h : RunAt w r N aL capL n s) (s' : Int) : RunAt (w.setCell ⟨r, 2, none⟩ (.int .i64 s')) r N aL capL n s' :=
  heap_setCell_at w r 2 _ 60 (0, 0) _ h
theorem RunAt.row {w : World} {r N : Nat} {aL : Option Addr} {capL n : Nat} {s : Int} (h : RunAt w r N aL capL n s) (N' : Nat) : RunAt (w.setCell ⟨r, 1, none⟩ (.slice (some ⟨N', 0, none⟩) (n + 1) (n + 1))) r N' aL capL n s :=
  heap_setCell_at w r 1 _ 60 (0, 0) _ h
theorem RunAt.lt {w : World} {r N : Nat} {aL : Option Addr} {capL n : Nat} {s : Int} (h : RunAt w r N aL capL n s) : r < w.heap.size := (Array.getElem?_eq_some_iff.1 h).1
theorem RunAt.below {w w' : World} {B r N : Nat} {aL : Option Addr} {capL n : Nat} {s : Int} (h : RunAt w r N aL capL n s) (g : Below B w w') (hB : r < B) : RunAt w' r N aL capL n s := (g.block r hB).trans h
theorem NowAt.below {w w' : World} {B N m : Nat} {f : Nat → Bool} (h : NowAt w N m f) (g : Below B w w') (hB : N < B) : NowAt w' N m f := by
  obtain ⟨C, h1, h2, h3⟩ := h
  exact ⟨C, (g.block N hB).trans h1, h2, h3⟩
set_option maxRecDepth 100000 in
set_option maxHeartbeats 1600000 in
theorem take_any (w : World) (B r N : Nat) (aL : Option Addr) (capL n : Nat) (l : List Pc) (f : Nat → Bool) (s : Int) (x : Nat) (hx : x ≤ 255) (hn : l.length = n) (hr : RunAt w r N aL capL n s) (hN : NowAt w N (n + 1) f) (hp : HasP w B aL l)
    (hlc : n ≤ capL) (hc : capL ≤ 9223372036854775807) (hnb : n ≤ 1099511627776) (hBr : B ≤ r) (hBN : B ≤ N) (hrN : r ≠ N) (hs0 : 0 ≤ s) (hs1 : s ≤ 1099511627776000000) :
    Calls Tryd.prog 30 #[.pointer (some ⟨r, 0, none⟩), .int .u8 x] w fun e w' => e = .returned (.tuple #[]) ∧ ∃ N', r ≠ N' ∧ B ≤ N' ∧ RunAt w' r N' aL capL n (s + cntTo l f n) ∧ NowAt w' N' (n + 1) (sprd l (nxtTo l f x n)) ∧ Below B w w' := by
  have HR := Lib.hid hr
  have HP := Lib.hid hp
  have HLN := Lib.hid hn
  obtain ⟨r0, r1, r2, -⟩ := hr.cells
  have HNN := Lib.hid hN
  have hrs := (Array.getElem?_eq_some_iff.1 hr).1
  have hNs := hN.lt
  clear hr hp hn hN
  obtain ⟨C, hmk, hnew⟩ := make_now w n (by omega)
  have HNew := Lib.hid hnew
  have HWB := Lib.hid (show w.grownBy (w.alloc (.cells C 4)) none from World.grownBy_alloc _ _ none)
  have HR1 := Lib.hid (HR.out.kept HWB.out (by simp))
  have HN1 := Lib.hid (HNN.out.kept HWB.out (by simp))
  obtain ⟨a0, a1, a2, -⟩ := HR1.out.cells
  clear hnew
  go_enter Tryd.func30, Tryd.ntmps30
  go_wp2_with fail
  have HBW := Lib.hid (show Below B w (w.alloc (.cells C 4)) from (Below.refl _ _).alloc (by omega) _)
  have HBs := Lib.hid (show B ≤ w.heap.size by omega)
  have hrM : r ≠ w.heap.size := by omega
  have hNM : N ≠ w.heap.size := by omega
  have hBM : B ≤ w.heap.size := by omega
  clear a0 a1 a2 r0 r1 r2 hmk
  generalize w.alloc (.cells C 4) = W1 at *
  generalize w.heap.size = M at *
  go_loopw [18] (fun y wr => ∃ (j : Nat), y = .int .i64 j ∧ j ≤ n ∧ NowAt wr M (n + 1) (nxtTo l f x j) ∧ RunAt wr r N aL capL n (s + cntTo l f j) ∧ NowAt wr N (n + 1) f ∧ Below B w wr) (fun y _ => n - (intOf y).toNat)
  case atStart => 
    refine ⟨0, rfl, by omega, HNew.out.eq fun i hi => ?_, by simpa [cntTo] using HR1.out, HN1.out, HBW.out⟩
    cases i <;> simp [nxtTo]
  case round =>
    obtain ⟨j, rfl, hj, hnx, hrr, hnn, hbel⟩ := hrel
    have HNX := Lib.hid hnx
    have HRR := Lib.hid hrr
    have HNW := Lib.hid hnn
    have HB := Lib.hid hbel
    have hcb := cnt_bd l f j
    have HCB := Lib.hid (show cntTo l f (j + 1) = cntTo l f j + (if f j && !(kd l j == 3) then 1 else 0) from rfl)
    clear hnx hnn hbel
    generalize hcj : cntTo l f j = c at *
    have HCJ := Lib.hid hcj
    clear hcj
    by_cases hlt : j < n
    · have hltI : (j : Int) < n := by omega
      have hjl : j < l.length := by rw [HLN.out]; exact hlt
      rcases HP.out with hS | ⟨b, off, rfl, hbB, hBs, hcs⟩
      · rw [hS] at hjl; simp at hjl
      obtain ⟨q0, q1, q2, q3, q4⟩ := hcs j hjl
      have hq : ∀ o, wr.cell? ⟨b, o, none⟩ = w.cell? ⟨b, o, none⟩ := fun o => HB.out.cell (p := ⟨b, o, none⟩) hbB
      rw [← hq] at q0 q1 q2 q3 q4
      have hk := kd_in hjl
      have hst := stt_in hjl
      rw [← hk] at q0
      rw [← hst] at q1 q2 q3 q4
      clear hq hcs hk hst
      have HA := Lib.hid (fun row => alloc_grown wr (.cells #[.int .i64 (kd l j), .int .u64 (wd (stt l j) 0), .int .u64 (wd (stt l j) 1), .int .u64 (wd (stt l j) 2), .int .u64 (wd (stt l j) 3)] 70) row)
      have hT := heap_alloc_new wr (.cells #[.int .i64 (kd l j), .int .u64 (wd (stt l j) 0), .int .u64 (wd (stt l j) 1), .int .u64 (wd (stt l j) 2), .int .u64 (wd (stt l j) 3)] 70)
      have k0 : (wr.alloc (.cells #[.int .i64 (kd l j), .int .u64 (wd (stt l j) 0), .int .u64 (wd (stt l j) 1), .int .u64 (wd (stt l j) 2), .int .u64 (wd (stt l j) 3)] 70)).cell? ⟨wr.heap.size, 0, none⟩ = some (.int .i64 (kd l j)) := by rw [World.cell?, hT]; rfl
      have k1 : (wr.alloc (.cells #[.int .i64 (kd l j), .int .u64 (wd (stt l j) 0), .int .u64 (wd (stt l j) 1), .int .u64 (wd (stt l j) 2), .int .u64 (wd (stt l j) 3)] 70)).cell? ⟨wr.heap.size, 1, none⟩ = some (.int .u64 (wd (stt l j) 0)) := by rw [World.cell?, hT]; rfl
      have k2 : (wr.alloc (.cells #[.int .i64 (kd l j), .int .u64 (wd (stt l j) 0), .int .u64 (wd (stt l j) 1), .int .u64 (wd (stt l j) 2), .int .u64 (wd (stt l j) 3)] 70)).cell? ⟨wr.heap.size, 2, none⟩ = some (.int .u64 (wd (stt l j) 1)) := by rw [World.cell?, hT]; rfl
      have k3 : (wr.alloc (.cells #[.int .i64 (kd l j), .int .u64 (wd (stt l j) 0), .int .u64 (wd (stt l j) 1), .int .u64 (wd (stt l j) 2), .int .u64 (wd (stt l j) 3)] 70)).cell? ⟨wr.heap.size, 3, none⟩ = some (.int .u64 (wd (stt l j) 2)) := by rw [World.cell?, hT]; rfl
      have k4 : (wr.alloc (.cells #[.int .i64 (kd l j), .int .u64 (wd (stt l j) 0), .int .u64 (wd (stt l j) 1), .int .u64 (wd (stt l j) 2), .int .u64 (wd (stt l j) 3)] 70)).cell? ⟨wr.heap.size, 4, none⟩ = some (.int .u64 (wd (stt l j) 3)) := by rw [World.cell?, hT]; rfl
      have HNA := Lib.hid (HNW.out.kept (HA.out none) (by simp))
      have HNXA := Lib.hid (HNX.out.kept (HA.out none) (by simp))
      have HRA := Lib.hid (hrr.kept (HA.out none) (by simp))
      have HBA := Lib.hid (HB.out.alloc (Nat.le_trans hBs HB.out.size) (.cells #[.int .i64 (kd l j), .int .u64 (wd (stt l j) 0), .int .u64 (wd (stt l j) 1), .int .u64 (wd (stt l j) 2), .int .u64 (wd (stt l j) 3)] 70))
      obtain ⟨-, r1, r2, -, g2⟩ := HRA.out.cells
      obtain ⟨n0, -⟩ := HNA.out.cell (j := j) (by omega)
      clear hT
      by_cases hx : f j = true
      · rw [hx] at n0
        have HX := Lib.hid hx
        clear hx
        by_cases h3 : kd l j = 3
        · have h3' : (kd l j == 3) = true := by simpa using h3
          have H3 := Lib.hid h3'
          clear h3
          obtain ⟨x0, e0⟩ := HNXA.out.cell (j := j) (by omega)
          go_wp2_with fail
          go_roundw
          case rel =>
            refine ⟨j + 1, rfl, by omega, (HNXA.out.set j true).eq fun i hi => nxt_star HX.out H3.out i, ?_, HNA.out.kept (grown_setCell _ _ _ _) (by intro e; exact hNM (Option.some.inj e).symm), HBA.out.setCell hBM _⟩
            rw [HCB.out, H3.out, show (f j && !true) = false by simp, if_neg (by simp), Int.add_zero]
            exact HRA.out.kept (grown_setCell _ _ _ _) (by intro e; exact hrM (Option.some.inj e).symm)
          case measure => simp [intOf]; omega
        · have h3' : (kd l j == 3) = false := by simpa using h3
          have H3 := Lib.hid h3'
          clear h3
          have HG2 := Lib.hid (grown_setCell (wr.alloc (.cells #[.int .i64 (kd l j), .int .u64 (wd (stt l j) 0), .int .u64 (wd (stt l j) 1), .int .u64 (wd (stt l j) 2), .int .u64 (wd (stt l j) 3)] 70)) r 2 (.int .i64 (s + c + 1)))
          have HRS := Lib.hid (HRA.out.steps (s + c + 1))
          have HNXS := Lib.hid (HNXA.out.kept HG2.out (by intro e; exact hrM (Option.some.inj e)))
          have HNS := Lib.hid (HNA.out.kept HG2.out (by intro e; exact hrN (Option.some.inj e)))
          have HBS := Lib.hid (HBA.out.setCell (p := ⟨r, 2, none⟩) hBr (.int .i64 (s + c + 1)))
          obtain ⟨x1, e1⟩ := HNXS.out.cell (j := j + 1) (by omega)
          have hrw : r ≠ wr.heap.size := by have := (Array.getElem?_eq_some_iff.1 hrr).1; omega
          have hkk : ∀ o, ((wr.alloc (.cells #[.int .i64 (kd l j), .int .u64 (wd (stt l j) 0), .int .u64 (wd (stt l j) 1), .int .u64 (wd (stt l j) 2), .int .u64 (wd (stt l j) 3)] 70)).setCell ⟨r, 2, none⟩ (.int .i64 (s + c + 1))).cell? ⟨wr.heap.size, o, none⟩ = (wr.alloc (.cells #[.int .i64 (kd l j), .int .u64 (wd (stt l j) 0), .int .u64 (wd (stt l j) 1), .int .u64 (wd (stt l j) 2), .int .u64 (wd (stt l j) 3)] 70)).cell? ⟨wr.heap.size, o, none⟩ := fun o => World.cell?_of_block (a := ⟨wr.heap.size, o, none⟩) (HG2.out.block _ (by simp) (fun e => hrw (Option.some.inj e).symm))
          have kk1 := (hkk 1).trans k1
          have kk2 := (hkk 2).trans k2
          have kk3 := (hkk 3).trans k3
          have kk4 := (hkk 4).trans k4
          clear hkk
          by_cases h2 : kd l j = 2
          · have h2' : (kd l j == 2) = true := by simpa using h2
            have H2 := Lib.hid h2'
            clear h2
            go_wp2_with fail
            go_roundw
            case rel =>
              refine ⟨j + 1, rfl, by omega, (HNXS.out.set (j + 1) true).eq fun i hi => nxt_hit HX.out H3.out (by simp [hit, H2.out]) i, ?_, HNS.out.kept (grown_setCell _ _ _ _) (by intro e; exact hNM (Option.some.inj e).symm), HBS.out.setCell hBM _⟩
              rw [HCB.out, HX.out, H3.out, show (true && !false) = true by simp, if_pos rfl, ← Int.add_assoc]
              exact HRS.out.kept (grown_setCell _ _ _ _) (by intro e; exact hrM (Option.some.inj e).symm)
            case measure => simp [intOf]; omega
          · have h2' : (kd l j == 2) = false := by simpa using h2
            have H2 := Lib.hid h2'
            clear h2
            have HC := Lib.hid (has_any (stt l j) x ((wr.alloc (.cells #[.int .i64 (kd l j), .int .u64 (wd (stt l j) 0), .int .u64 (wd (stt l j) 1), .int .u64 (wd (stt l j) 2), .int .u64 (wd (stt l j) 3)] 70)).setCell ⟨r, 2, none⟩ (.int .i64 (s + c + 1))) (by assumption))
            unfold setV wv at HC
            go_wp2_with fail
            refine HC.out.mono ?_; rintro e w' ⟨rfl, hbel⟩
            have HRF := Lib.hid (HRS.out.below hbel HRS.out.lt)
            have HNXF := Lib.hid (HNXS.out.below hbel HNXS.out.lt)
            have HNF := Lib.hid (HNS.out.below hbel HNS.out.lt)
            have HBF := Lib.hid (HBS.out.trans (hbel.mono (Nat.le_trans hBM (Nat.le_of_lt HNXS.out.lt))))
            have HH := Lib.hid (show hit l x j = (stt l j).getLsbD x by simp [hit, H2.out])
            obtain ⟨y1, z1⟩ := HNXF.out.cell (j := j + 1) (by omega)
            clear hbel HC
            by_cases hbit : (stt l j).getLsbD x = true
            · rw [hbit] at HH
              rw [hbit]
              clear hbit
              go_wp2_with fail
              go_roundw
              case rel =>
                refine ⟨j + 1, rfl, by omega, (HNXF.out.set (j + 1) true).eq fun i hi => nxt_hit HX.out H3.out HH.out i, ?_, HNF.out.kept (grown_setCell _ _ _ _) (by intro e; exact hNM (Option.some.inj e).symm), HBF.out.setCell hBM _⟩
                rw [HCB.out, HX.out, H3.out, show (true && !false) = true by simp, if_pos rfl, ← Int.add_assoc]
                exact HRF.out.kept (grown_setCell _ _ _ _) (by intro e; exact hrM (Option.some.inj e).symm)
              case measure => simp [intOf]; omega
            · have hbit' : (stt l j).getLsbD x = false := by simpa using hbit
              rw [hbit'] at HH
              rw [hbit']
              clear hbit hbit'
              go_wp2_with fail
              go_roundw
              case rel =>
                refine ⟨j + 1, rfl, by omega, HNXF.out.eq fun i hi => nxt_keep (.inr ⟨H3.out, HH.out⟩) i, ?_, HNF.out, HBF.out⟩
                rw [HCB.out, HX.out, H3.out, show (true && !false) = true by simp, if_pos rfl, ← Int.add_assoc]
                exact HRF.out
              case measure => simp [intOf]; omega
      · have hx' : f j = false := by simpa using hx
        rw [hx'] at n0
        have HX := Lib.hid hx'
        clear hx hx'
        go_wp2_with fail
        go_roundw
        case rel =>
          refine ⟨j + 1, rfl, by omega, HNXA.out.eq fun i hi => nxt_keep (.inl HX.out) i, ?_, HNA.out, HBA.out⟩
          rw [HCB.out, HX.out, show (false && !(kd l j == 3)) = false by simp, if_neg (by simp), Int.add_zero]
          exact HRA.out
        case measure => simp [intOf]; omega
    · have hltI : ¬ (j : Int) < n := by omega
      obtain rfl : j = n := by omega
      obtain ⟨-, r1, -, g1, -⟩ := hrr.cells
      have HRZ := Lib.hid (HRR.out.row M)
      have HGZ := Lib.hid (grown_setCell wr r 1 (.slice (some ⟨M, 0, none⟩) (j + 1) (j + 1)))
      have HNXZ := Lib.hid (HNX.out.kept HGZ.out (by intro e; exact hrM (Option.some.inj e)))
      have HBZ := Lib.hid (HB.out.setCell (p := ⟨r, 1, none⟩) hBr (.slice (some ⟨M, 0, none⟩) (j + 1) (j + 1)))
      have HC := Lib.hid (spread_any _ B r M aL capL j l _ _ HLN.out HRZ.out HNXZ.out (HP.out.below HBZ.out) hlc (by omega) hBr hBM hrM)
      clear hrr
      go_wp2_with fail
      refine HC.out.mono ?_; rintro e w' ⟨rfl, hnw, hg⟩
      have HNW2 := Lib.hid hnw
      have HG2 := Lib.hid hg
      clear hnw hg
      go_wp2_with fail
      go_end0
      refine ⟨rfl, M, hrM, hBM, by rw [HCJ.out]; exact HRZ.out.kept HG2.out (by intro e; exact hrM (Option.some.inj e).symm), HNW2.out, HBZ.out.grown HG2.out ?_ (fun k hk => by cases hk; exact hBM)⟩
      exact Nat.le_trans hBM (Nat.le_of_lt HNXZ.out.lt)
end Go.Proofs.YtafmhhhboihdfaaDoor
