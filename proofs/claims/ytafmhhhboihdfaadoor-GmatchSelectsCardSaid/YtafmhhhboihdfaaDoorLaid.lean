/-
  What a row's list of variables gives the walks: the errors' cells, MaxLen's cell. Conditions: those that each theorem names.
-/
import Derived.Test.YtafmhhhboihdfaaDoorAwake
import Derived.ProofKit
import Derived.LaidMore
import Derived.LaidLaws
import Derived.OpenShut
import Derived.ShapedOpen
namespace Go.Proofs.YtafmhhhboihdfaaDoor
open Go.RowKit Go.ChangeShapes Go.WideShapes
set_option linter.unusedVariables false
theorem laid_each {P : Program} {w : World} : ∀ (L : List (String × DataW Unit)) (ps : List MemPlace), DataW.LaidVars P w L ps → ∀ n d, (n, d) ∈ L →
    ∃ g t cs fuel p, P.globalNamed n = some g ∧ (P.globals[g]?).map (·.type) = some t ∧ w.var? P n = some cs ∧ DataW.trod (fun _ => ()) P w 0 (fun _ => true) false fuel t cs.toList = some (d, p)
  | [], _, _, n, d, h => by cases h
  | (n', d') :: r, ps, ⟨g, t, cs, fuel, p, q, h1, h2, h3, h4, h5, _⟩, n, d, h => by
    rcases List.mem_cons.1 h with h | h
    · injection h with e1 e2
      subst e1; subst e2
      exact ⟨g, t, cs, fuel, p, h1, h2, h3, h4⟩
    · exact laid_each r q h5 n d h
/-- an error that is listed holds an interface that is not nil -/
theorem cell_of_laid {w : World} {L : List (String × DataW Unit)} {ps : List MemPlace} (h : DataW.LaidVars Tryd.prog w L ps) (k : Nat) (n m : String) (d : DataW Unit) (hm : (n, DataW.iface m d) ∈ L)
    (hg : Tryd.prog.globalNamed n = some k) (ht : (Tryd.prog.globals[k]?).map (·.type) = some 52) : ∃ t v, w.cell? ⟨k, 0, none⟩ = some (.iface t v) := by
  obtain ⟨g, t, cs, fuel, p, h1, h2, h3, h4⟩ := laid_each L ps h n _ hm
  obtain rfl := Option.some.inj (hg.symm.trans h1)
  obtain rfl := Option.some.inj (ht.symm.trans h2)
  obtain ⟨f1, u, v, hcs, -⟩ := iface_of_trod Tryd.underlying52 h4
  refine ⟨u, v, ?_⟩
  have h5 := World.var?_cell h1 h3 0
  rw [h5, ← Array.getElem?_toList, hcs]; rfl
set_option maxRecDepth 100000 in
theorem int_of_shape {w : World} (h : w.ShapedOpen Tryd.prog) : ∃ k, w.cell? ⟨21, 0, none⟩ = some (.int .i64 k) := by
  obtain ⟨cs, hh, hs, hr⟩ := h.1 21 #[.int .i64 0] 3 (of_decide_eq_true (by kernel_rfl)) (by kernel_rfl)
  obtain ⟨ts, hts, _, hall⟩ := hr (by kernel_rfl)
  rw [show Tryd.prog.cellTypes Tryd.prog.depth 3 = some [3] by kernel_rfl] at hts
  cases hts
  have h1 : 0 < cs.size := by rw [hs]; decide
  obtain ⟨u, hu', hok⟩ := hall 0 cs[0] (by simp [h1])
  have : u = 3 := by simpa using hu'.symm
  subst this
  have hcell : w.cell? ⟨21, 0, none⟩ = some cs[0] := by simp [World.cell?, hh, h1]
  rw [hcell]
  unfold Cell.ok at hok
  rw [Tryd.underlying3] at hok
  cases hv : cs[0] <;> rw [hv] at hok <;> simp at hok
  obtain ⟨rfl, -⟩ := hok
  exact ⟨_, rfl⟩
theorem glob_of {w : World} (h : laidMetH Tryd.prog Rows.gmatchStepsRow.laid w) (hs : w.ShapedOpen Tryd.prog) : Glob w := by
  rw [MakeChecks.laidMetH_plain _ _ _ (by kernel_rfl)] at h
  obtain ⟨ps, hl, -, -⟩ := h
  obtain ⟨k, hk⟩ := int_of_shape hs
  have hsz : 22 ≤ w.heap.size := by
    rcases Nat.lt_or_ge 21 w.heap.size with h | h
    · omega
    · rw [World.cell?, Array.getElem?_eq_none h] at hk; cases hk
  refine ⟨⟨by omega, fun g hg => ?_⟩, k, hk⟩
  rcases (show g = 0 ∨ g = 1 ∨ g = 2 ∨ g = 3 ∨ g = 4 ∨ g = 5 ∨ g = 6 ∨ g = 7 ∨ g = 8 ∨ g = 9 by omega) with rfl | rfl | rfl | rfl | rfl | rfl | rfl | rfl | rfl | rfl
  · exact cell_of_laid hl 0 "pidgin/fault.errArg" _ _ (.head _) (by kernel_rfl) (by kernel_rfl)
  · exact cell_of_laid hl 1 "pidgin/fault.errLong" _ _ (.tail _ (.head _)) (by kernel_rfl) (by kernel_rfl)
  · exact cell_of_laid hl 2 "pidgin/fault.errSyntax" _ _ (.tail _ (.tail _ (.head _))) (by kernel_rfl) (by kernel_rfl)
  · exact cell_of_laid hl 3 "pidgin/fault.errDeep" _ _ (.tail _ (.tail _ (.tail _ (.head _)))) (by kernel_rfl) (by kernel_rfl)
  · exact cell_of_laid hl 4 "pidgin/fault.errMany" _ _ (.tail _ (.tail _ (.tail _ (.tail _ (.head _))))) (by kernel_rfl) (by kernel_rfl)
  · exact cell_of_laid hl 5 "pidgin/fault.errNumber" _ _ (.tail _ (.tail _ (.tail _ (.tail _ (.tail _ (.head _)))))) (by kernel_rfl) (by kernel_rfl)
  · exact cell_of_laid hl 6 "pidgin/fault.errRange" _ _ (.tail _ (.tail _ (.tail _ (.tail _ (.tail _ (.tail _ (.head _))))))) (by kernel_rfl) (by kernel_rfl)
  · exact cell_of_laid hl 7 "pidgin/fault.errBracket" _ _ (.tail _ (.tail _ (.tail _ (.tail _ (.tail _ (.tail _ (.tail _ (.head _)))))))) (by kernel_rfl) (by kernel_rfl)
  · exact cell_of_laid hl 8 "pidgin/fault.errGroup" _ _ (.tail _ (.tail _ (.tail _ (.tail _ (.tail _ (.tail _ (.tail _ (.tail _ (.head _))))))))) (by kernel_rfl) (by kernel_rfl)
  · exact cell_of_laid hl 9 "pidgin/fault.errEscape" _ _ (.tail _ (.tail _ (.tail _ (.tail _ (.tail _ (.tail _ (.tail _ (.tail _ (.tail _ (.head _)))))))))) (by kernel_rfl) (by kernel_rfl)
end Go.Proofs.YtafmhhhboihdfaaDoor
