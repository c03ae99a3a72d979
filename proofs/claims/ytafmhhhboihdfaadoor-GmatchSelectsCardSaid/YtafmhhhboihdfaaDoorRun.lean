/-
  The run over a subject: spread, take, done, begin. Conditions: those that each theorem names.
-/
import Derived.Test.YtafmhhhboihdfaaDoorSet3
namespace Go.Proofs.YtafmhhhboihdfaaDoor
open Go.RowKit
set_option linter.unusedVariables false
/-- pieces that lie in memory one behind the other, in a block below B -/
def HasP (w : World) (B : Nat) (a : Option Addr) (l : List Pc) : Prop :=
  l = [] ∨ ∃ b off, a = some ⟨b, off, none⟩ ∧ b < B ∧ B ≤ w.heap.size ∧ ∀ i (h : i < l.length), w.cell? ⟨b, off + i * 5, none⟩ = some (.int .i64 l[i].kind) ∧
    w.cell? ⟨b, off + i * 5 + 1, none⟩ = some (.int .u64 (wd l[i].set 0)) ∧ w.cell? ⟨b, off + i * 5 + 2, none⟩ = some (.int .u64 (wd l[i].set 1)) ∧
    w.cell? ⟨b, off + i * 5 + 3, none⟩ = some (.int .u64 (wd l[i].set 2)) ∧ w.cell? ⟨b, off + i * 5 + 4, none⟩ = some (.int .u64 (wd l[i].set 3))
theorem HasP.below {w w' : World} {B : Nat} {a : Option Addr} {l : List Pc} (h : HasP w B a l) (g : Below B w w') : HasP w' B a l := by
  rcases h with h | ⟨b, off, h1, h2, h3, h4⟩
  · exact .inl h
  · have hq : ∀ o, w'.cell? ⟨b, o, none⟩ = w.cell? ⟨b, o, none⟩ := fun o => g.cell (p := ⟨b, o, none⟩) h2
    exact .inr ⟨b, off, h1, h2, Nat.le_trans h3 g.size, fun i hi => by simpa only [hq] using h4 i hi⟩
/-- the kind of a piece, by its place -/
def kd (l : List Pc) (i : Nat) : Int := (l.getD i ⟨0, 0⟩).kind
theorem kd_in {l : List Pc} {i : Nat} (h : i < l.length) : kd l i = l[i].kind := by simp [kd, h]
/-- the places that can be come to behind pieces that may match nothing -/
def sprd (l : List Pc) (f : Nat → Bool) : Nat → Bool
  | 0 => f 0
  | i + 1 => f (i + 1) || (sprd l f i && kd l i == 3)
/-- the places as they stand when a spread has come to place i -/
def sprdTo (l : List Pc) (f : Nat → Bool) (i j : Nat) : Bool := if j ≤ i then sprd l f j else f j
theorem sprdTo_keep {l : List Pc} {f : Nat → Bool} {i : Nat} (h : (sprd l f i && kd l i == 3) = false) (j : Nat) : sprdTo l f (i + 1) j = sprdTo l f i j := by
  unfold sprdTo
  by_cases h1 : j ≤ i
  · rw [if_pos h1, if_pos (by omega)]
  · by_cases h2 : j = i + 1
    · subst h2; rw [if_pos (Nat.le_refl _), if_neg (by omega), sprd, h, Bool.or_false]
    · rw [if_neg h1, if_neg (by omega)]
theorem sprdTo_set {l : List Pc} {f : Nat → Bool} {i : Nat} (h : (sprd l f i && kd l i == 3) = true) (j : Nat) : sprdTo l f (i + 1) j = if j = i + 1 then true else sprdTo l f i j := by
  unfold sprdTo
  by_cases h1 : j ≤ i
  · rw [if_pos h1, if_pos (by omega), if_neg (by omega)]
  · by_cases h2 : j = i + 1
    · subst h2; rw [if_pos (Nat.le_refl _), if_pos rfl, sprd, h, Bool.or_true]
    · rw [if_neg h1, if_neg (by omega), if_neg h2]
/-- the block N holds a row of bools -/
def NowAt (w : World) (N m : Nat) (f : Nat → Bool) : Prop := ∃ C : Array Value, w.heap[N]? = some (.cells C 4 (0, 0)) ∧ C.size = m ∧ ∀ j, j < m → C[j]? = some (.bool (f j))
theorem NowAt.cell {w : World} {N m : Nat} {f : Nat → Bool} (h : NowAt w N m f) {j : Nat} (hj : j < m) : w.cell? ⟨N, j, none⟩ = some (.bool (f j)) ∧ w.frozen? ⟨N, j, none⟩ = false := by
  obtain ⟨C, h1, h2, h3⟩ := h
  exact ⟨(cell_of_heap h1).trans (h3 j hj), by rw [World.frozen?, h1]; rfl⟩
theorem NowAt.kept {w w' : World} {N m : Nat} {f : Nat → Bool} {row : Option Nat} (h : NowAt w N m f) (g : w.grownBy w' row) (hr : row ≠ some N) : NowAt w' N m f := by
  obtain ⟨C, h1, h2, h3⟩ := h
  exact ⟨C, (g.block N (Array.getElem?_eq_some_iff.1 h1).1 (fun e => hr e.symm)).trans h1, h2, h3⟩
theorem alloc_grown (w : World) (o : Obj) (row : Option Nat) : w.grownBy (w.alloc o) row := ⟨rfl, rfl, rfl, by simp, fun k hk _ => Below.heap_alloc w o k hk⟩
theorem NowAt.lt {w : World} {N m : Nat} {f : Nat → Bool} (h : NowAt w N m f) : N < w.heap.size := by
  obtain ⟨C, h1, -⟩ := h; exact (Array.getElem?_eq_some_iff.1 h1).1
theorem NowAt.eq {w : World} {N m : Nat} {f g : Nat → Bool} (h : NowAt w N m f) (e : ∀ j, j < m → g j = f j) : NowAt w N m g := by
  obtain ⟨C, h1, h2, h3⟩ := h
  exact ⟨C, h1, h2, fun j hj => by rw [e j hj]; exact h3 j hj⟩
theorem NowAt.set {w : World} {N m : Nat} {f : Nat → Bool} (h : NowAt w N m f) (k : Nat) (v : Bool) : NowAt (w.setCell ⟨N, k, none⟩ (.bool v)) N m (fun j => if j = k then v else f j) := by
  obtain ⟨C, h1, h2, h3⟩ := h
  refine ⟨_, heap_setCell_at w N k C 4 (0, 0) _ h1, by simp [h2], fun j hj => ?_⟩
  by_cases e : j = k
  · subst e; simp [h2, hj]
  · rw [Array.getElem?_setIfInBounds, if_neg (fun h => e h.symm)]; simp [e, h3 j hj]
/-- the block r holds a run over pieces -/
def RunAt (w : World) (r N : Nat) (aL : Option Addr) (capL n : Nat) (s : Int) : Prop :=
  w.heap[r]? = some (.cells #[.slice aL n capL, .slice (some ⟨N, 0, none⟩) (n + 1) (n + 1), .int .i64 s] 60 (0, 0))
theorem RunAt.cells {w : World} {r N : Nat} {aL : Option Addr} {capL n : Nat} {s : Int} (h : RunAt w r N aL capL n s) :
    w.cell? ⟨r, 0, none⟩ = some (.slice aL n capL) ∧ w.cell? ⟨r, 1, none⟩ = some (.slice (some ⟨N, 0, none⟩) (n + 1) (n + 1)) ∧ w.cell? ⟨r, 2, none⟩ = some (.int .i64 s) ∧ w.frozen? ⟨r, 1, none⟩ = false ∧ w.frozen? ⟨r, 2, none⟩ = false := by
  unfold RunAt at h
  refine ⟨?_, ?_, ?_, ?_, ?_⟩
  all_goals first
    | (rw [World.cell?, h]; rfl)
    | (rw [World.frozen?, h]; rfl)
theorem RunAt.kept {w w' : World} {r N : Nat} {aL : Option Addr} {capL n : Nat} {s : Int} {row : Option Nat} (h : RunAt w r N aL capL n s) (g : w.grownBy w' row) (hr : row ≠ some r) : RunAt w' r N aL capL n s :=
  (g.block r (Array.getElem?_eq_some_iff.1 h).1 (fun e => hr e.symm)).trans h
set_option maxRecDepth 100000 in
set_option maxHeartbeats 1600000 in
theorem spread_any (w : World) (B r N : Nat) (aL : Option Addr) (capL n : Nat) (l : List Pc) (f : Nat → Bool) (s : Int) (hn : l.length = n) (hr : RunAt w r N aL capL n s) (hN : NowAt w N (n + 1) f) (hp : HasP w B aL l)
    (hlc : n ≤ capL) (hc : capL ≤ 9223372036854775807) (hBr : B ≤ r) (hBN : B ≤ N) (hrN : r ≠ N) :
    Calls Tryd.prog 51 #[.pointer (some ⟨r, 0, none⟩)] w fun e w' => e = .returned (.tuple #[]) ∧ NowAt w' N (n + 1) (sprd l f) ∧ w.grownBy w' (some N) := by
  have HR := Lib.hid hr
  have HP := Lib.hid hp
  have HLN := Lib.hid hn
  obtain ⟨r0, r1, r2, -⟩ := hr.cells
  have HNN := Lib.hid hN
  clear hr hp hn hN
  go_enter Tryd.func51, Tryd.ntmps51
  go_wp2_with fail
  clear r0 r1 r2
  go_loopw [9] (fun x wr => ∃ (j : Nat), x = .int .i64 j ∧ j ≤ n ∧ NowAt wr N (n + 1) (sprdTo l f j) ∧ w.grownBy wr (some N)) (fun x _ => n - (intOf x).toNat)
  case atStart =>
    refine ⟨0, rfl, by omega, HNN.out.eq (fun j hj => ?_), ⟨rfl, rfl, rfl, Nat.le_refl _, fun _ _ _ => rfl⟩⟩
    unfold sprdTo
    by_cases h : j = 0
    · subst h; rfl
    · rw [if_neg (by omega)]
  case round =>
    obtain ⟨j, rfl, hj, hnow, hg⟩ := hrel
    have HG := Lib.hid hg
    have HNW := Lib.hid hnow
    clear hg hnow
    by_cases hlt : j < n
    · have hltI : (j : Int) < n := by omega
      have hjl : j < l.length := by rw [HLN.out]; exact hlt
      rcases HP.out with hS | ⟨b, off, rfl, hbB, hBs, hcs⟩
      · rw [hS] at hjl; simp at hjl
      obtain ⟨q0, q1, q2, q3, q4⟩ := hcs j hjl
      have hq : ∀ o, wr.cell? ⟨b, o, none⟩ = w.cell? ⟨b, o, none⟩ := fun o => World.cell?_of_block (w := w) (a := ⟨b, o, none⟩) (HG.out.block b (by omega) (fun e => by cases e; omega))
      rw [← hq] at q0 q1 q2 q3 q4
      have hk := kd_in hjl
      rw [← hk] at q0
      clear hq hcs hk
      generalize l[j] = T at *
      have HA := Lib.hid (World.grownBy_alloc wr (.cells #[.int .i64 (kd l j), .int .u64 (wd T.set 0), .int .u64 (wd T.set 1), .int .u64 (wd T.set 2), .int .u64 (wd T.set 3)] 70) none)
      have hT := heap_alloc_new wr (.cells #[.int .i64 (kd l j), .int .u64 (wd T.set 0), .int .u64 (wd T.set 1), .int .u64 (wd T.set 2), .int .u64 (wd T.set 3)] 70)
      have k0 : (wr.alloc (.cells #[.int .i64 (kd l j), .int .u64 (wd T.set 0), .int .u64 (wd T.set 1), .int .u64 (wd T.set 2), .int .u64 (wd T.set 3)] 70)).cell? ⟨wr.heap.size, 0, none⟩ = some (.int .i64 (kd l j)) := by rw [World.cell?, hT]; rfl
      have HNA := Lib.hid (HNW.out.kept HA.out (by simp))
      obtain ⟨-, r1, -⟩ := ((HR.out.kept HG.out (by intro e; cases e; exact hrN rfl)).kept HA.out (by simp)).cells
      obtain ⟨n0, -⟩ := HNA.out.cell (j := j) (by omega)
      obtain ⟨n1, f1⟩ := HNA.out.cell (j := j + 1) (by omega)
      clear hT
      by_cases hx : sprdTo l f j j = true
      · rw [hx] at n0
        have HX := Lib.hid hx
        clear hx
        by_cases h3 : kd l j = 3
        · have h3' : (kd l j == 3) = true := by simpa using h3
          have H3 := Lib.hid h3'
          clear h3
          go_wp2_with fail
          go_roundw
          case rel =>
            refine ⟨j + 1, rfl, by omega, (HNA.out.set (j + 1) true).eq fun i hi => ?_, grown_trans (grown_trans HG.out (alloc_grown _ _ _)) (grown_setCell _ _ _ _)⟩
            exact sprdTo_set (by rw [show sprd l f j = sprdTo l f j j by simp [sprdTo], HX.out, H3.out]; rfl) i
          case measure => simp [intOf]; omega
        · have h3' : (kd l j == 3) = false := by simpa using h3
          have H3 := Lib.hid h3'
          clear h3
          go_wp2_with fail
          go_roundw
          case rel =>
            refine ⟨j + 1, rfl, by omega, HNA.out.eq fun i hi => ?_, grown_trans HG.out (alloc_grown _ _ _)⟩
            exact sprdTo_keep (by rw [show sprd l f j = sprdTo l f j j by simp [sprdTo], HX.out, H3.out]; rfl) i
          case measure => simp [intOf]; omega
      · have hx' : sprdTo l f j j = false := by simpa using hx
        rw [hx'] at n0
        have HX := Lib.hid hx'
        clear hx hx'
        go_wp2_with fail
        go_roundw
        case rel =>
          refine ⟨j + 1, rfl, by omega, HNA.out.eq fun i hi => ?_, grown_trans HG.out (alloc_grown _ _ _)⟩
          exact sprdTo_keep (by rw [show sprd l f j = sprdTo l f j j by simp [sprdTo], HX.out]; rfl) i
        case measure => simp [intOf]; omega
    · have hltI : ¬ (j : Int) < n := by omega
      obtain rfl : j = n := by omega
      go_wp2_with fail
      go_end0
      exact ⟨rfl, HNW.out.eq fun i hi => by unfold sprdTo; rw [if_pos (by omega)], HG.out⟩
end Go.Proofs.YtafmhhhboihdfaaDoor
