/-
  A bracket's reader: fail. Conditions: those that each theorem names.
-/
import Derived.Test.YtafmhhhboihdfaaDoorReader
import Derived.Deep.RegionHeld3
import Derived.Deep.DrawnRows
namespace Go.Proofs.YtafmhhhboihdfaaDoor
open Go.RowKit
set_option linter.unusedVariables false
attribute [local go_sem ↓] Go.wp_at_zero Go.wp_at_succ
set_option maxRecDepth 100000 in
set_option maxHeartbeats 800000 in
theorem fail_any (w : World) (r : Nat) (a : Option Addr) (m cap p : Nat) (lang : Int) (c : Nat) (pos : Int) (hr : RdAt w r a m cap p lang) (hE : Errs w) (h1 : 1 ≤ c) (h2 : c ≤ 10) :
    Calls Tryd.prog 63 #[.pointer (some ⟨r, 0, none⟩), .int .i64 c, .int .i64 pos] w fun e w' => (∃ t v, e = .returned (.iface t v)) ∧ Below w.heap.size w w' := by
  have r0 : w.cell? ⟨r, 2, none⟩ = some (.int .i64 lang) := by rw [World.cell?, show w.heap[r]? = _ from hr]; rfl
  have hrl : r < w.heap.size := (Array.getElem?_eq_some_iff.1 (show w.heap[r]? = _ from hr)).1
  have HE := Lib.hid hE
  clear hr hE
  go_enter Tryd.func63, Tryd.ntmps63
  go_wp2_with fail
  go_region_held3 (fun w' => w'.cell? ⟨r, 2, none⟩ = some (.int .i64 lang) ∧ Below w.heap.size w w')
    (first | exact ⟨r0, (Below.refl _ _).drew⟩ | exact ⟨(hb1.cell (p := ⟨r, 2, none⟩) (by simpa using hrl)).trans r0, (Below.refl _ _).drew.trans hb1⟩ | exact ⟨(hb2.cell (p := ⟨r, 2, none⟩) (by have := hb1.size; simp at this ⊢; omega)).trans ((hb1.cell (p := ⟨r, 2, none⟩) (by simpa using hrl)).trans r0), ((Below.refl _ _).drew.trans hb1).trans (hb2.mono hb1.size)⟩)
    (first
      | (go_at_call 48; refine (of_err w.drew c (show Errs w.drew from HE.out) h1 h2).mono ?_; rintro e w' ⟨t, v, rfl, rfl⟩)
      | (go_at_call 47; refine (at_any _ t v pos).mono ?_; rintro e w1 ⟨v1, rfl, hb1⟩)
      | (go_at_call 46; refine (in_any _ 99 v1 lang).mono ?_; rintro e w2 ⟨v2, rfl, hb2⟩))
  go_wp2_with fail
  go_ret
  exact ⟨⟨_, _, rfl⟩, (by assumption : w2.cell? ⟨r, 2, none⟩ = some (.int .i64 lang) ∧ Below w.heap.size w w2).2⟩
end Go.Proofs.YtafmhhhboihdfaaDoor
