/-
  Bytes appended to a slice of the call's own. Conditions: those that each theorem names.
-/
import Derived.Test.YtafmhhhboihdfaaDoorMatch
import Derived.Laws.AppendOwn
namespace Go.Proofs.YtafmhhhboihdfaaDoor
open Go.RowKit
set_option linter.unusedVariables false
theorem info5 : (Tryd.prog.info? 5).map (fun i => (i.zero, i.size, i.bytes)) = some (some (.int .u8 0), 1, 1) := by kernel_rfl
def bcells (l : List UInt8) : List Value := l.map fun c => .int .u8 (iv c)
theorem bcells_app (l m : List UInt8) : bcells (l ++ m) = bcells l ++ bcells m := by simp [bcells]
theorem bcells_len (l : List UInt8) : (bcells l).length = l.length := by simp [bcells]
theorem bcells_at (l : List UInt8) (i : Nat) (hi : i < l.length) : (bcells l)[i]? = some (.int .u8 (iv l[i])) := by simp [bcells, hi]
theorem bcells_one (l : List UInt8) : ∀ u ∈ bcells l, u.oneCell' = true := fun u hu => by
  simp only [bcells, List.mem_map] at hu
  obtain ⟨c, -, rfl⟩ := hu; rfl
theorem add_off (b off j : Nat) : (⟨b, off, none⟩ : Addr).add j = ⟨b, off + j, none⟩ := by unfold Addr.add; split <;> simp_all
theorem bcells_cell {w : World} {b off : Nat} {l : List UInt8} (hc : ∀ i (h : i < l.length), w.cell? ⟨b, off + i, none⟩ = some (.int .u8 (iv l[i]))) :
    ∀ j u, (bcells l)[j]? = some u → w.cell? ((⟨b, off, none⟩ : Addr).add j) = some u := fun j u hj => by
  have hjl : j < l.length := by have := (List.getElem?_eq_some_iff.1 hj).1; rwa [bcells_len] at this
  rw [add_off, hc j hjl, ← bcells_at l j hjl]; exact hj
/-- bytes at the end of which may be appended: a slice without room, or a row of the call's own -/
def App (w : World) (B : Nat) (v : Value) (n : Nat) (l : List UInt8) : Prop :=
  (∃ a, v = .slice a n n ∧ HasB w a l) ∨ w.ownsRow B 5 1 v n (bcells l)
theorem App.out {w : World} {B : Nat} {v : Value} {n : Nat} {l : List UInt8} (h : App w B v n l) (hl : l.length = n) (hn : n ≤ maxLen) : ∃ a cap, v = .slice a n cap ∧ HasB w a l ∧ n ≤ cap ∧ cap ≤ maxLen := by
  rcases h with ⟨a, rfl, h⟩ | ⟨h1, h2⟩
  · exact ⟨a, n, rfl, h, Nat.le_refl _, hn⟩
  · rcases h2 with ⟨rfl, rfl⟩ | ⟨g, cap, cur, rfl, h3, h4, h5, h6, h7, h8⟩
    · exact ⟨none, 0, rfl, .inl (List.length_eq_zero_iff.1 hl), Nat.le_refl _, by simp [maxLen]⟩
    · refine ⟨some ⟨g, 0, none⟩, cap, rfl, .inr ⟨g, 0, rfl, (Array.getElem?_eq_some_iff.1 h4).1, fun i hi => ?_⟩, h5, h6⟩
      rw [Nat.zero_add, cell_of_heap h4, ← Array.getElem?_toList, ← bcells_at l i hi, ← h8, List.getElem?_take, if_pos (by omega)]
theorem App.below {w w' : World} {B : Nat} {v : Value} {n : Nat} {l : List UInt8} (h : App w B v n l) (b : Below w.heap.size w w') : App w' B v n l := by
  rcases h with ⟨a, rfl, h⟩ | h
  · exact .inl ⟨a, rfl, h.below b⟩
  · refine .inr (h.kept (row := none) ⟨b.os, b.tape, b.output, b.size, fun k hk _ => b.block k hk⟩ ?_)
    cases hv : v.ownBlock <;> simp
theorem below_of_grown {w w' : World} {B : Nat} {row : Option Nat} (g : w.grownBy w' row) (hB : B ≤ w.heap.size) (hr : ∀ k, row = some k → B ≤ k) : Below B w w' :=
  ⟨g.os, g.tape, g.output, g.size, fun k hk => g.block k (by omega) (fun e => by have := hr k e.symm; omega)⟩
theorem app_more (w : World) (B : Nat) (v : Value) (n : Nat) (l : List UInt8) (h : App w B v n l) (hn : l.length = n) (a2 : Option Addr) (n2 cap2 : Nat) (l2 : List UInt8) (hb : HasB w a2 l2) (hn2 : l2.length = n2) (hl : n + n2 ≤ 140737488351232) (hB : B ≤ w.heap.size) :
    ∃ v' w', (Builtin.append_ #[22, 22] 22 #[v, .slice a2 n2 cap2]).run Tryd.prog w = .ok v' w' ∧ App w' B v' (n + n2) (l ++ l2) ∧ Below B w w' := by
  subst hn; subst hn2
  obtain ⟨i0, hi, hz0, hz1, hz2⟩ := info_parts info5
  have ht := Tryd.underlying22
  have hnone : l2 = [] → ∃ v' w', (Builtin.append_ #[22, 22] 22 #[v, .slice a2 l2.length cap2]).run Tryd.prog w = .ok v' w' ∧ App w' B v' (l.length + l2.length) (l ++ l2) ∧ Below B w w' := by
    rintro rfl
    refine ⟨v, w, ?_, by simpa using h, ⟨rfl, rfl, rfl, Nat.le_refl _, fun _ _ => rfl⟩⟩
    rcases h with ⟨a, rfl, -⟩ | ⟨-, ⟨rfl, h0⟩ | ⟨g, cp, cur, rfl, -, hg, hn, -⟩⟩
    · cases a2 <;> cases a <;> simp [Builtin.append_, run_underlying ht, sizeOf, typeInfo, hi, Builtin.lenOf, Builtin.firstCells, loadCells, loadCellsFrom, storeCells]
    · cases a2 <;> simp [Builtin.append_, run_underlying ht, sizeOf, typeInfo, hi, Builtin.lenOf, Builtin.firstCells, loadCells, loadCellsFrom]
    · cases a2 <;> simp [Builtin.append_, run_underlying ht, sizeOf, typeInfo, hi, Builtin.lenOf, Builtin.firstCells, loadCells, loadCellsFrom, hn, storeCells]
  rcases hb with h0 | ⟨b2, off2, rfl, hlt2, hc2⟩
  · exact hnone h0
  rcases Nat.eq_zero_or_pos l2.length with h0 | h0
  · exact hnone (List.length_eq_zero_iff.1 h0)
  have grown : ∀ (old : Nat), old < l.length + l2.length → App (w.drew.alloc (.cells ((bcells l).toArray ++ (bcells l2).toArray ++ Builtin.zeroCells (Value.int .u8 0).cells (grownCap w (l.length + l2.length) old 5 - (l.length + l2.length))) 5)) B (.slice (some ⟨w.heap.size, 0, none⟩) (l.length + l2.length) (grownCap w (l.length + l2.length) old 5)) (l.length + l2.length) (l ++ l2) := by
    intro old ho
    refine .inr ⟨by rw [bcells_len, List.length_append, Nat.mul_one], .inr ⟨w.heap.size, _, _, rfl, hB, heap_alloc_new w.drew _, grownCap_ge _ _ _ _, grownCap_le_maxLen _ _ _ _ (by simp [maxLen]; omega), ?_, ?_⟩⟩
    · have := grownCap_ge w (l.length + l2.length) old 5
      simp only [Array.size_append, List.size_toArray, size_zeroCells, bcells_len]
      simp [Value.cells]; omega
    · rw [bcells_app]
      simp only [Array.toList_append, List.append_assoc]
      rw [← List.append_assoc, List.take_left' (by simp [bcells_len])]
  rcases h with ⟨a, rfl, hb1⟩ | hown
  · have hfit := growslice_fits (need := l.length + l2.length) (old := l.length) (bytes := i0.bytes) (by omega) (by rw [hz2]; omega)
    rcases hb1 with h1 | ⟨b1, off1, rfl, hlt1, hc1⟩
    · subst h1
      cases a with
      | none =>
        have hr := run_append_nil (P := Tryd.prog) w 22 22 5 i0 _ ht hi hz0 ⟨b2, off2, none⟩ l2.length cap2 (bcells l2) (by rw [hz1, bcells_len]; omega) (bcells_cell hc2) h0 (by omega) (by rw [hz2]; omega)
        refine ⟨_, _, hr, ?_, (Below.refl _ _).drew.alloc hB _⟩
        have := grown 0 (by simp; omega)
        simpa [bcells] using this
      | some a =>
        have hr := run_append_grow (P := Tryd.prog) w 22 22 5 i0 _ ht hi hz0 a 0 0 [] (by simp) (by simp) ⟨b2, off2, none⟩ l2.length cap2 (bcells l2) (by rw [hz1, bcells_len]; omega) (bcells_cell hc2) (by omega) (by omega) hfit
        refine ⟨_, _, hr, ?_, (Below.refl _ _).drew.alloc hB _⟩
        have := grown 0 (by simp; omega)
        simpa [bcells] using this
    · have hr := run_append_grow (P := Tryd.prog) w 22 22 5 i0 _ ht hi hz0 ⟨b1, off1, none⟩ l.length l.length (bcells l) (by rw [hz1, bcells_len]; omega) (bcells_cell hc1) ⟨b2, off2, none⟩ l2.length cap2 (bcells l2) (by rw [hz1, bcells_len]; omega) (bcells_cell hc2) (by omega) (by omega) hfit
      exact ⟨_, _, hr, grown l.length (by omega), (Below.refl _ _).drew.alloc hB _⟩
  · obtain ⟨v', w', h1, h2, h3, -⟩ := run_append_own (P := Tryd.prog) w B 22 22 5 i0 (.int .u8 0) 1 1 ht hi hz0 hz1 hz2 rfl (by decide) v l.length (bcells l) hown ⟨b2, off2, none⟩ l2.length cap2 (bcells l2) (by rw [bcells_len, Nat.mul_one]) (bcells_cell hc2) (bcells_one l2) (by simp [maxLen]; omega) (by omega) hB
    exact ⟨v', w', h1, .inr (by rw [bcells_app]; exact h2), below_of_grown h3 hB fun k e => (hown.lt k e).1⟩
end Go.Proofs.YtafmhhhboihdfaaDoor
