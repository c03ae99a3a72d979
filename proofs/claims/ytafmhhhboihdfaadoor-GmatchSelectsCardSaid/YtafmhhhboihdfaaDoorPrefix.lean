/-
  Prefix. Conditions: those that each theorem names.
-/
import Derived.Test.YtafmhhhboihdfaaDoorUpto
namespace Go.Proofs.YtafmhhhboihdfaaDoor
open Go.RowKit
set_option linter.unusedVariables false
set_option maxRecDepth 100000 in
theorem prefix_nil (w : World) (aS : Option Addr) (m capS : Nat) (longest : Bool) :
    Calls Tryd.prog 19 #[.pointer none, .slice aS m capS, .bool longest] w fun e w' => e = .returned (.tuple #[.int .i64 0, .bool false]) ∧ Below w.heap.size w w' := by
  have HB := Lib.hid (show Below w.heap.size w (w.alloc (.cells #[.slice aS m capS] 22 (0, 0))) from (Below.refl _ _).alloc (Nat.le_refl _) _)
  go_enter Tryd.func19, Tryd.ntmps19
  go_wp2_with fail
  go_ret2
  exact ⟨rfl, HB.out⟩
/-- the closure that Prefix makes -/
theorem pfx_all (W w : World) (c : Nat) (aS : Option Addr) (m capS : Nat) (bs : List UInt8) (hb : HasB w aS bs) (hbW : Below w.heap.size w W) (hm : bs.length = m) (hms : m ≤ capS) (hcs : capS ≤ 140737488351232)
    (hc : W.cell? ⟨c, 0, none⟩ = some (.slice aS m capS)) : ∀ i (hi : i < bs.length), Calls Tryd.prog 33 #[.int .i64 i, .pointer (some ⟨c, 0, none⟩)] W fun e w' => e = .returned (.int .u8 (iv bs[i])) ∧ W = w' := by
  intro i hi
  rcases hb.below hbW with rfl | ⟨b, off, rfl, hlt, hx⟩
  · simp at hi
  · exact pfx_any W c b off m capS bs i hi hm hc (hx i hi) (by omega)
set_option maxRecDepth 100000 in
set_option maxHeartbeats 1600000 in
theorem prefix_any (w : World) (q B : Nat) (a : Option Addr) (n cap : Nat) (l : List Pc) (aS : Option Addr) (m capS : Nat) (bs : List UInt8) (longest : Bool) (hn : l.length = n) (hnb : n ≤ 4096) (hq : PatAt w q a n cap) (hp : HasP w B a l) (hB : B ≤ w.heap.size)
    (hbs : HasB w aS bs) (hm : bs.length = m) (hms : m ≤ capS) (hcs : capS ≤ 140737488351232) :
    Calls Tryd.prog 19 #[.pointer (some ⟨q, 0, none⟩), .slice aS m capS, .bool longest] w fun e w' => e = .returned (.tuple #[.int .i64 (prefS l bs longest).1, .bool (prefS l bs longest).2]) ∧ Below w.heap.size w w' := by
  have hmf : ∀ (fn : Fn) (first cap : Array Value) (w : World), (Instr.makeFunc fn first cap).run Tryd.prog w = .ok (.func fn first cap) w := fun _ _ _ _ => rfl
  have HB1 := Lib.hid (show Below w.heap.size w (w.alloc (.cells #[.slice aS m capS] 22 (0, 0))) from (Below.refl _ _).alloc (Nat.le_refl _) _)
  have HC1 := Lib.hid (show (w.alloc (.cells #[.slice aS m capS] 22 (0, 0))).cell? ⟨w.heap.size, 0, none⟩ = some (.slice aS m capS) by rw [cell_of_heap (heap_alloc_new w _)]; rfl)
  have hqlt : q < w.heap.size := (Array.getElem?_eq_some_iff.1 (show w.heap[q]? = _ from hq)).1
  have HQ := Lib.hid (show PatAt (w.alloc (.cells #[.slice aS m capS] 22 (0, 0))) q a n cap from (HB1.out.block q hqlt).trans hq)
  have HS := Lib.hid (show (w.alloc (.cells #[.slice aS m capS] 22 (0, 0))).heap.size = w.heap.size + 1 by simp)
  have HP := Lib.hid (show HasP (w.alloc (.cells #[.slice aS m capS] 22 (0, 0))) B a l from hp.below (HB1.out.mono hB))
  have HBS := Lib.hid hbs
  have HN := Lib.hid hn
  have HM := Lib.hid hm
  have HMS := Lib.hid hms
  clear hq hp hbs hn hm hqlt
  go_enter Tryd.func19, Tryd.ntmps19
  go_wp2_with fail
  generalize w.alloc (.cells #[.slice aS m capS] 22 (0, 0)) = W at *
  have hcW := HC1.out
  have HC := Lib.hid (pieces_any W.drew q B a n cap l HN.out (show PatAt W.drew q a n cap from HQ.out) (show HasP W.drew B a l from HP.out.below (Below.refl _ _).drew) (by omega))
  have HU := Lib.hid (fun (w2 : World) (a' : Option Addr) (cap' : Nat) (h1 : HasP w2 w2.heap.size a' l) (h2 : n ≤ cap') (h3 : cap' ≤ maxLen) (h4 : Below W.drew.heap.size W.drew w2) =>
    upto_33 w2 a' cap' n l w.heap.size m bs longest HN.out h1 h2 (by simp [maxLen] at h3; omega) hnb HM.out (by omega) fun i hi W2 hW2 =>
      pfx_all W2 w w.heap.size aS m capS bs HBS.out ((HB1.out.trans ((show Below W.heap.size W w2 from (Below.refl _ _).drew.trans h4).mono (by have := HS.out; omega))).trans (hW2.mono (by have h5 : W.heap.size ≤ w2.heap.size := h4.size; have := HS.out; omega))) HM.out HMS.out hcs ((hW2.cell (p := ⟨w.heap.size, 0, none⟩) (show w.heap.size < w2.heap.size by have h5 : W.heap.size ≤ w2.heap.size := h4.size; have := HS.out; omega)).trans ((h4.cell (p := ⟨w.heap.size, 0, none⟩) (show w.heap.size < W.drew.heap.size by have := HS.out; simp; omega)).trans HC1.out)) i hi)
  go_region_held3 (fun V => V.cell? ⟨w.heap.size, 0, none⟩ = some (.slice aS m capS)) (first | with_reducible exact hc3 | with_reducible exact hc2 | with_reducible exact hcW | assumption)
    ((first | (go_at_call 13; refine HC.out.mono ?_; rintro e w2 ⟨a', cap', rfl, hx1, hx2, hx3, hx4⟩; have hc2 : w2.cell? ⟨w.heap.size, 0, none⟩ = some (.slice aS m capS) := ((hx4.cell (p := ⟨w.heap.size, 0, none⟩) (show w.heap.size < W.drew.heap.size by have := HS.out; simp; omega)).trans HC1.out)) | (go_at_call 32; refine (HU.out _ _ _ hx1 hx2 hx3 hx4).mono ?_; rintro e w3 ⟨rfl, hb3⟩; have hc3 : w3.cell? ⟨w.heap.size, 0, none⟩ = some (.slice aS m capS) := (hb3.cell (p := ⟨w.heap.size, 0, none⟩) (show w.heap.size < w2.heap.size by have h5 : W.heap.size ≤ w2.heap.size := hx4.size; have := HS.out; omega)).trans hc2)))
  all_goals
    have b1 : Below W.heap.size W w3 := Below.trans (Below.trans (Below.refl _ _).drew hx4) (hb3.mono (show W.heap.size ≤ w2.heap.size from hx4.size))
    have HF := Lib.hid (show Below w.heap.size w w3 from HB1.out.trans (b1.mono (by have := HS.out; omega)))
    clear b1
    have HE := Lib.hid (show bestTo (fun j => mat l (List.take j bs)) longest (m + 1) = prefS l bs longest by rw [← HM.out]; rfl)
    rw [HE.out]
    clear hx1 hx2 hx3 hx4 hb3 HU HC hcW hc2
    go_wp2_with fail
    go_ret2
    exact ⟨rfl, HF.out⟩
end Go.Proofs.YtafmhhhboihdfaaDoor
