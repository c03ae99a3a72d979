/-
  A slice of bytes that came in is opened as a list of bytes. Conditions: those that each theorem names.
-/
import Derived.Test.YtafmhhhboihdfaaDoorLaid
import Derived.ProofKit
import Derived.OpenShut
import Derived.ShutString
import Derived.ChangeOld
import Derived.SizedLaws
namespace Go.Proofs.YtafmhhhboihdfaaDoor
open Go.ChangeShapes Go.WideShapes Go.ChangeAt Go.RowKit
set_option linter.unusedVariables false
def toB (z : Int) : UInt8 := UInt8.ofNat z.toNat
theorem iv_toB {z : Int} (h0 : 0 ≤ z) (h1 : z ≤ 255) : iv (toB z) = z := by
  unfold iv toB
  rw [UInt8.toNat_ofNat_of_lt' (by show z.toNat < 256; omega)]
  omega
theorem wf_bd_i64 {x : Int} (h : (Lit.int .i64 x).wf = true) : -9223372036854775808 ≤ x ∧ x ≤ 9223372036854775807 := by
  simpa [Lit.wf, IntKind.min, IntKind.max, IntKind.signed, IntKind.bits] using h
theorem wf_bd_u64 {x : Int} (h : (Lit.int .u64 x).wf = true) : 0 ≤ x ∧ x ≤ 18446744073709551615 := by
  simpa [Lit.wf, IntKind.min, IntKind.max, IntKind.signed, IntKind.bits] using h
theorem wf_bd_u8 {x : Int} (h : (Lit.int .u8 x).wf = true) : 0 ≤ x ∧ x ≤ 255 := by
  simpa [Lit.wf, IntKind.min, IntKind.max, IntKind.signed, IntKind.bits] using h
section
variable {H : Type} {enc : TypeId × Value → H}
theorem open_bytes {W : World} {a : Option Addr} {len cap : Nat} {d : DataW H} {p : List MemPlace} (h : DataW.Trod enc Tryd.prog W 0 (fun _ => true) true 22 (.slice a len cap) d p) :
    ∃ l : List UInt8, l.length = len ∧ l.length ≤ cap ∧ HasB W a l ∧ (cap = 0 ∨ ∃ xs ys, d = .slice xs ys ∧ xs.length + ys.length = cap) := by
  obtain ⟨fuel, hf⟩ := h
  rcases open_ints Tryd.underlying22 Tryd.underlying5 (by kernel_rfl) hf with ⟨hcs, _⟩ | ⟨x, l, c, zs, hcs, _, hl, hm, hz, hd, hcell, hwz⟩
  · simp [Value.cells] at hcs
    obtain ⟨rfl, rfl, rfl⟩ := hcs
    exact ⟨[], rfl, by simp, .inl rfl, .inl rfl⟩
  · simp [Value.cells] at hcs
    obtain ⟨rfl, rfl, rfl⟩ := hcs
    simp only [if_true] at hz
    refine ⟨(zs.take len).map toB, by simp; omega, by simp; omega, ?_, .inr ⟨_, _, (Prod.mk.inj hd).1, by simp [lits]; omega⟩⟩
    rcases Nat.eq_zero_or_pos len with h0 | h0
    · exact .inl (by simp [h0])
    · right
      obtain ⟨b, off, spot⟩ := x
      have hc0 := hcell 0 (by omega)
      have hspot : spot = none := by simpa [Addr.add] using World.cell?_spot hc0
      subst hspot
      refine ⟨b, off, rfl, World.block_lt_of_cell? W _ hc0, fun i hi => ?_⟩
      simp only [List.length_map, List.length_take] at hi
      have hc := hcell i (by omega)
      have hadd : (⟨b, off, none⟩ : Addr).add i = ⟨b, off + i, none⟩ := by unfold Addr.add; split <;> simp_all
      rw [hadd] at hc
      have hw := wf_bd_u8 (hwz (zs.getD i 0) (by rw [List.getD_eq_getElem?_getD, List.getElem?_eq_getElem (by omega)]; simp))
      rw [hc]
      have : ((zs.take len).map toB)[i]'(by simp; omega) = toB (zs.getD i 0) := by simp [List.getElem?_eq_getElem (show i < zs.length by omega)]
      rw [this, iv_toB hw.1 hw.2]
theorem bytes5 : Tryd.prog.bytesOf 5 = 1 := by kernel_rfl
theorem bytes_reach {ts : List TypeId} {ds : List (DataW H)} (h : (DataW.weightsEach Tryd.prog ts ds).all (· ≤ reachBytes) = true) {j : Nat} {cap : Nat} {d : DataW H} (ht : ts[j]? = some 22) (hj : ds[j]? = some d)
    (hd : cap = 0 ∨ ∃ xs ys, d = .slice xs ys ∧ xs.length + ys.length = cap) : cap ≤ 140737488351232 := by
  rcases hd with rfl | ⟨xs, ys, rfl, rfl⟩
  · omega
  · have := sized_slice h ht hj Tryd.underlying22
    rw [bytes5, reachBytes] at this
    omega
end
end Go.Proofs.YtafmhhhboihdfaaDoor
