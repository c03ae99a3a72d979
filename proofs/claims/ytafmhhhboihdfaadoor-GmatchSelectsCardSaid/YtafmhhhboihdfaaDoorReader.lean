/-
  A bracket's reader: what it holds; is. Conditions: those that each theorem names.
-/
import Derived.Test.YtafmhhhboihdfaaDoorMatch
import Derived.Test.YtafmhhhboihdfaaDoorFault
namespace Go.Proofs.YtafmhhhboihdfaaDoor
open Go.RowKit
set_option linter.unusedVariables false
/-- the block r holds a reader over m bytes at a place -/
def RdAt (w : World) (r : Nat) (a : Option Addr) (m cap : Nat) (p : Nat) (lang : Int) : Prop :=
  w.heap[r]? = some (.cells #[.slice a m cap, .int .i64 p, .int .i64 lang] 104 (0, 0))
/-- does a byte stand at a place? -/
def stands (l : List UInt8) (i : Nat) (x : Int) : Bool := match l[i]? with
  | some c => iv c == x
  | none => false
theorem stands_in {l : List UInt8} {i : Nat} {x : Int} (h : i < l.length) : stands l i x = (iv l[i] == x) := by simp [stands, h]
theorem stands_out {l : List UInt8} {i : Nat} {x : Int} (h : ¬ i < l.length) : stands l i x = false := by
  unfold stands; rw [List.getElem?_eq_none (by omega)]
set_option maxRecDepth 100000 in
set_option maxHeartbeats 800000 in
theorem is_any (w : World) (r : Nat) (a : Option Addr) (m cap p : Nat) (lang : Int) (l : List UInt8) (k : Nat) (x : Int) (hm : l.length = m) (hr : RdAt w r a m cap p lang) (hb : HasB w a l)
    (hmb : m ≤ 140737488351232) (hms : m ≤ cap) (hcs : cap ≤ 9223372036854775807) (hp : p ≤ m) (hk : k ≤ 2) (hx0 : 0 ≤ x) (hx1 : x ≤ 255) :
    Calls Tryd.prog 77 #[.pointer (some ⟨r, 0, none⟩), .int .i64 k, .int .u8 x] w fun e w' => e = .returned (.bool (stands l (p + k) x)) ∧ ∃ q, w' = w.drewN q := by
  have r0 : ∀ q, (w.drewN q).cell? ⟨r, 0, none⟩ = some (.slice a m cap) := fun q => by show w.cell? _ = _; rw [World.cell?, show w.heap[r]? = _ from hr]; rfl
  have r1 : ∀ q, (w.drewN q).cell? ⟨r, 1, none⟩ = some (.int .i64 p) := fun q => by show w.cell? _ = _; rw [World.cell?, show w.heap[r]? = _ from hr]; rfl
  by_cases hlt : p + k < l.length
  · obtain ⟨b, off, rfl, hbl, hbc⟩ : ∃ b off, a = some ⟨b, off, none⟩ ∧ b < w.heap.size ∧ ∀ i (h : i < l.length), w.cell? ⟨b, off + i, none⟩ = some (.int .u8 (iv l[i])) := by
      rcases hb with rfl | h
      · simp at hlt
      · exact h
    have c0 : ∀ q, (w.drewN q).cell? ⟨b, off + (p + k), none⟩ = some (.int .u8 (iv l[p + k])) := fun q => hbc (p + k) hlt
    have hS := Lib.hid (stands_in (x := x) hlt)
    have hI : (p : Int) + (k : Int) < (m : Int) := by omega
    have hpk : p + k < m := by omega
    generalize l[p + k] = z at *
    have hz0 := iv_lo z
    have hz1 := iv_hi z
    generalize iv z = zz at *
    clear hr hb hbc hm hlt
    go_enter Tryd.func77, Tryd.ntmps77
    go_wp2_with fail
    go_quiet (fail)
    go_wp2_with fail
    go_ret
    exact ⟨ret_bool hS.out.symm, _, rfl⟩
  · have hS := Lib.hid (stands_out (x := x) hlt)
    have hW : IntKind.i64.wrap ((p : Int) + (k : Int)) = (p : Int) + k := by rw [IntKind.wrap_i64]; omega
    have hD : decide ((p : Int) + (k : Int) < (m : Int)) = false := by simp; omega
    have hI : ¬ (p : Int) + (k : Int) < (m : Int) := by omega
    have hI2 : ¬ (p + k < m) := by omega
    clear hr hb hm hlt
    go_enter Tryd.func77, Tryd.ntmps77
    go_wp2_with fail
    go_quiet (fail)
    go_wp2_with fail
    go_ret
    exact ⟨ret_bool hS.out.symm, _, rfl⟩
end Go.Proofs.YtafmhhhboihdfaaDoor
