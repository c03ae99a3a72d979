/-
  scan.Base computes the plain function. Conditions: those that each theorem names.
-/
import Derived.Test.YtcmeijeddjckjaaWhole
import Derived.Test.YtcmeijeddjckjaaPlain3
namespace Go.Proofs.Ytcmeijeddjckjaa
open Go.RowKit
def table (up : Bool) : ByteArray := if up then ⟨#[48, 49, 50, 51, 52, 53, 54, 55, 56, 57, 65, 66, 67, 68, 69, 70]⟩ else ⟨#[48, 49, 50, 51, 52, 53, 54, 55, 56, 57, 97, 98, 99, 100, 101, 102]⟩
theorem table_at (up : Bool) (k : Nat) (hk : k < 16) : ∃ h : k < (table up).size, (((table up)[k]'h).toNat : Int) = dch up k := by
  cases up
  · exact (by decide +kernel : ∀ k, k < 16 → ∃ h : k < (table false).size, (((table false)[k]'h).toNat : Int) = dch false k) k hk
  · exact (by decide +kernel : ∀ k, k < 16 → ∃ h : k < (table true).size, (((table true)[k]'h).toNat : Int) = dch true k) k hk
theorem run_index_table (up : Bool) (d : Int) (h0 : 0 ≤ d) (h1 : d < 16) (w : World) : (Instr.index 9 (.string (table up)) (.int .u64 d)).run Try.prog w = .ok (.int .u8 (dch up d)) w := by
  obtain ⟨k, rfl⟩ := Int.eq_ofNat_of_zero_le h0
  obtain ⟨h, e⟩ := table_at up k (by omega)
  rw [run_index_string w 9 (table up) .u64 k Try.underlying9]
  simp [h, e]
theorem heap_setCell_at (w : World) (g k : Nat) (C : Array Value) (t : TypeId) (fz : Nat × Nat) (v : Value) (h : w.heap[g]? = some (.cells C t fz)) : (w.setCell ⟨g, k, none⟩ v).heap[g]? = some (.cells (C.setIfInBounds k v) t fz) := by
  simp [World.setCell, Array.getElem?_modify, h]
theorem cell_of_heap {w : World} {g k : Nat} {C : Array Value} {t : TypeId} {fz : Nat × Nat} (h : w.heap[g]? = some (.cells C t fz)) : w.cell? ⟨g, k, none⟩ = C[k]? := by
  rw [World.cell?, h]; rfl
theorem conv_back (w : World) (B g n cap : Nat) (C : Array Value) (t : TypeId) (fz : Nat × Nat) (l : List UInt8) (hl : l.length = n) (h : w.heap[B]? = some (.cells C t fz)) (hc : ∀ i (hi : i < l.length), C[g + i]? = some (.int .u8 (iv l[i]))) :
    (convert 22 9 (.slice (some ⟨B, g, none⟩) n cap)).run Try.prog w = .ok (.string ⟨l.toArray⟩) w := by
  subst hl
  refine run_convert_bytes_back w 22 9 5 ⟨B, g, none⟩ cap l Try.underlying22 Try.underlying5 Try.underlying9 fun j hj => ?_
  have hadd : (⟨B, g, none⟩ : Addr).add j = ⟨B, g + j, none⟩ := by unfold Addr.add; split <;> simp_all
  rw [hadd, cell_of_heap h]
  exact hc j hj
theorem cells_ahead {C : Array Value} {g : Nat} {x : Int} {acc : List UInt8} (hx : 0 ≤ x ∧ x ≤ 255) (hg : g < C.size) (hca : ∀ i (hi : i < acc.length), C[g + 1 + i]? = some (.int .u8 (iv acc[i]))) :
    ∀ i (hi : i < (toB x :: acc).length), (C.setIfInBounds g (.int .u8 x))[g + i]? = some (.int .u8 (iv (toB x :: acc)[i])) := by
  intro i hi
  cases i with
  | zero => simp [hg, iv_toB hx.1 hx.2]
  | succ i =>
    have := hca i (by simpa using hi)
    rw [Array.getElem?_setIfInBounds, if_neg (by omega)]
    rw [show g + (i + 1) = g + 1 + i by omega, this]; rfl
set_option maxRecDepth 100000 in
set_option maxHeartbeats 1000000 in
theorem base_any (n base : Int) (up : Bool) (w : World) (h0 : 0 ≤ n) (h1 : n ≤ 18446744073709551615) (hb : 2 ≤ base) (hb2 : base ≤ 16):
    Calls Try.prog 19 #[.int .u64 n, .int .i64 base, .bool up] w fun e w' => e = .returned (.string ⟨(bs up base n).toArray⟩) ∧ Below w.heap.size w w' := by
  have HX := Lib.hid (fun d h0 h1 w => run_index_table up d h0 h1 w)
  have HR := Lib.hid (show bacc up base 64 n [] = bs up base n from rfl)
  generalize bs up base n = res at *
  obtain ⟨up', hup⟩ : ∃ u, up = u := ⟨_, rfl⟩
  have HU := Lib.hid hup
  rw [hup]; clear hup
  have HT := Lib.hid (show table up = if up' then ⟨#[48, 49, 50, 51, 52, 53, 54, 55, 56, 57, 65, 66, 67, 68, 69, 70]⟩ else ⟨#[48, 49, 50, 51, 52, 53, 54, 55, 56, 57, 97, 98, 99, 100, 101, 102]⟩ from by rw [HU.out]; rfl)
  cases up'
  all_goals
    go_enter Try.func19, Try.ntmps19
    go_wp2
    go_loopw [0, 9] (fun n a wr => ∃ (f : Nat) (m : Int) (acc : List UInt8) (C : Array Value), 1 ≤ f ∧ f ≤ 64 ∧ n = .int .u64 m ∧ 0 ≤ m ∧ m < 2 ^ f ∧ m ≤ 18446744073709551615 ∧ a = .int .i64 f ∧ wr.heap[w.heap.size]? = some (.cells C 57 (0, 0)) ∧ C.size = 64 ∧ acc.length + f = 64 ∧ (∀ i (hi : i < acc.length), C[f + i]? = some (.int .u8 (iv acc[i]))) ∧ Hid (bacc up base f m acc = res) ∧ Below w.heap.size w wr) (fun _ a _ => (intOf a).toNat)
    case atStart => exact ⟨64, n, [], _, by omega, by omega, rfl, h0, by omega, h1, rfl, heap_alloc_new w _, rfl, rfl, (fun i hi => absurd hi (by simp)), HR, (Below.refl _ _).alloc (Nat.le_refl _) _⟩
    case round =>
      obtain ⟨f, m, acc, C, hf1, hf2, rfl, hm0, hm1, hm2, rfl, hC, hCs, hal, hca, HB, hbel⟩ := hrel
      obtain ⟨g, rfl⟩ : ∃ g, f = g + 1 := ⟨f - 1, by omega⟩
      have hd0 : 0 ≤ m % base := Int.emod_nonneg _ (by omega)
      have hd1 : m % base < base := Int.emod_lt_of_pos _ (by omega)
      have hq0 : 0 ≤ m / base := Int.ediv_nonneg hm0 (by omega)
      have hcell : wr.cell? ⟨w.heap.size, g, none⟩ = some (C[g]'(by omega)) := by
        rw [World.cell?, hC]; simp [show g < C.size by omega]
      have hfz : wr.frozen? ⟨w.heap.size, g, none⟩ = false := by
        rw [World.frozen?, hC]; simp
      have hix := HX.out (m % base) hd0 (by omega)
      rw [HT.out] at hix
      simp only [Bool.false_eq_true, if_false, if_true] at hix
      have hdc := dch_bd up (d := m % base) hd0 (by omega)
      have hgi : (g : Int) ≤ 64 := by omega
      have hgn : ¬ (64 = g) := by omega
      have hC' := heap_setCell_at wr w.heap.size g C 57 (0, 0) (.int .u8 (dch up (m % base))) hC
      have hca' := cells_ahead (C := C) (g := g) (x := dch up (m % base)) (acc := acc) (by omega) (by omega) hca
      have hbel' := hbel.setCell (p := ⟨w.heap.size, g, none⟩) (Nat.le_refl _) (.int .u8 (dch up (m % base)))
      have hcv := conv_back _ w.heap.size g (64 - g) (64 - g) _ 57 (0, 0) _ (by simp; omega) hC' hca'
      by_cases hq : m / base = 0
      · have hqb : (m / base == 0) = true := by simpa using hq
        have HE := Lib.hid ((bacc_last (up := up) (f := g) (acc := acc) hq).symm.trans HB.out)
        clear hca hca' hC' hC HX hq
        go_wp2_with fail
        go_ret
        rw [HE.out]
        exact ⟨rfl, hbel'⟩
      · have hqb : (m / base == 0) = false := by simpa using hq
        have HE := Lib.hid ((bacc_more (up := up) (f := g) (acc := acc) hq).symm.trans HB.out)
        have hh := half hb hm0 hm1
        have hg1 := some_room (n := m / base) (by omega) hh
        have hq2 : m / base ≤ m := Int.ediv_le_self base hm0
        have HC' := Lib.hid hC'
        have HCA := Lib.hid hca'
        clear hca hca' hC' hC HX hcv hq HB
        go_wp2_with fail
        go_roundw
        case rel => exact ⟨g, m / base, _, _, by omega, by omega, rfl, hq0, hh, by omega, rfl, HC'.out, by simpa using hCs, by simp; omega, fun i hi => HCA.out i hi, HE, hbel'⟩
        case measure => simp [intOf]
end Go.Proofs.Ytcmeijeddjckjaa
