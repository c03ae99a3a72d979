/-
  The run over a subject: begin. Conditions: those that each theorem names.
-/
import Derived.Test.YtafmhhhboihdfaaDoorTake
namespace Go.Proofs.YtafmhhhboihdfaaDoor
open Go.RowKit
set_option linter.unusedVariables false
def st0 (i : Nat) : Bool := decide (i = 0)
set_option maxRecDepth 100000 in
set_option maxHeartbeats 800000 in
theorem begin_any (w : World) (aL : Option Addr) (capL n : Nat) (l : List Pc) (hn : l.length = n) (hp : HasP w w.heap.size aL l) (hlc : n ≤ capL) (hc : capL ≤ 9223372036854775807) (hnb : n ≤ 1099511627776) :
    Calls Tryd.prog 29 #[.slice aL n capL] w fun e w' => e = .returned (.pointer (some ⟨w.heap.size + 1, 0, none⟩)) ∧ RunAt w' (w.heap.size + 1) w.heap.size aL capL n 0 ∧ NowAt w' w.heap.size (n + 1) (sprd l st0) ∧ Below w.heap.size w w' := by
  obtain ⟨C, hmk, hnew⟩ := make_now w n (by omega)
  have HP := Lib.hid hp
  have HLN := Lib.hid hn
  have HNew := Lib.hid hnew
  have HB1 := Lib.hid (show Below w.heap.size w (w.alloc (.cells C 4)) from (Below.refl _ _).alloc (Nat.le_refl _) _)
  have HZ := Lib.hid (show (w.alloc (.cells C 4)).heap.size = w.heap.size + 1 by simp)
  generalize w.alloc (.cells C 4) = W1 at *
  generalize hM : w.heap.size = M at *
  have hz := HZ.out
  have HSZ := Lib.hid (show (W1.setCell ⟨M, 0, none⟩ (.bool true)).heap.size = M + 1 by rw [← HZ.out]; simp [World.setCell])
  obtain ⟨n0, z0⟩ := HNew.out.cell (j := 0) (by omega)
  have HN1 := Lib.hid ((HNew.out.set 0 true).eq (g := st0) (fun j hj => by unfold st0; by_cases h : j = 0 <;> simp [h]))
  have HR2 := Lib.hid (show RunAt ((W1.setCell ⟨M, 0, none⟩ (.bool true)).alloc (.cells #[.slice aL n capL, .slice (some ⟨M, 0, none⟩) (n + 1) (n + 1), .int .i64 0] 60)) (M + 1) M aL capL n 0 by
    have h := heap_alloc_new (W1.setCell ⟨M, 0, none⟩ (.bool true)) (.cells #[.slice aL n capL, .slice (some ⟨M, 0, none⟩) (n + 1) (n + 1), .int .i64 0] 60)
    rw [HSZ.out] at h
    exact h)
  have HN2 := Lib.hid (HN1.out.kept (World.grownBy_alloc (W1.setCell ⟨M, 0, none⟩ (.bool true)) (.cells #[.slice aL n capL, .slice (some ⟨M, 0, none⟩) (n + 1) (n + 1), .int .i64 0] 60) none) (by simp))
  have HB3 := Lib.hid ((HB1.out.setCell (p := ⟨M, 0, none⟩) (Nat.le_refl _) (.bool true)).alloc (by rw [HSZ.out]; omega) (.cells #[.slice aL n capL, .slice (some ⟨M, 0, none⟩) (n + 1) (n + 1), .int .i64 0] 60))
  have HC := Lib.hid (spread_any _ M (M + 1) M aL capL n l st0 0 hn HR2.out HN2.out (hp.below HB3.out) hlc (by omega) (by omega) (Nat.le_refl _) (by omega))
  have HM := Lib.hid hM
  clear hp hn hnew hM
  go_enter Tryd.func29, Tryd.ntmps29
  go_wp2_with fail
  refine HC.out.mono ?_; rintro e w' ⟨rfl, hnw, hg⟩
  have HNW2 := Lib.hid hnw
  have HG2 := Lib.hid hg
  clear hnw hg
  go_wp2_with fail
  go_ret
  refine ⟨rfl, HR2.out.kept HG2.out (by simp), HNW2.out, HB3.out.grown HG2.out (Nat.le_of_lt HN2.out.lt) (fun k hk => by cases hk; exact Nat.le_refl _)⟩
end Go.Proofs.YtafmhhhboihdfaaDoor
