/-
  A pattern's pieces: Pieces. Conditions: those that each theorem names.
-/
import Derived.Test.YtafmhhhboihdfaaDoorBegin
import Derived.Laws.Append
namespace Go.Proofs.YtafmhhhboihdfaaDoor
open Go.RowKit
set_option linter.unusedVariables false
theorem info70 : (Tryd.prog.info? 70).map (fun i => (i.zero, i.size, i.bytes)) = some (some (.agg #[.int .i64 0, .int .u64 0, .int .u64 0, .int .u64 0, .int .u64 0]), 5, 40) := by kernel_rfl
def pc5 (p : Pc) : List Value := [.int .i64 p.kind, .int .u64 (wd p.set 0), .int .u64 (wd p.set 1), .int .u64 (wd p.set 2), .int .u64 (wd p.set 3)]
def pcells (l : List Pc) : List Value := l.flatMap pc5
theorem pcells_len (l : List Pc) : (pcells l).length = l.length * 5 := by
  induction l with
  | nil => rfl
  | cons p l ih => simp only [pcells, List.flatMap_cons, List.length_append, List.length_cons] at *; rw [ih]; simp [pc5]; omega
theorem pcells_at (l : List Pc) (i k : Nat) (hi : i < l.length) (hk : k < 5) : (pcells l)[i * 5 + k]? = (pc5 l[i])[k]? := by
  induction l generalizing i with
  | nil => simp at hi
  | cons p l ih =>
    show (pc5 p ++ pcells l)[i * 5 + k]? = _
    cases i with
    | zero => rw [List.getElem?_append_left (by simp [pc5]; omega)]; simp
    | succ i =>
      rw [List.getElem?_append_right (by simp [pc5]; omega)]
      rw [show (i + 1) * 5 + k - (pc5 p).length = i * 5 + k by simp [pc5]; omega, ih i (by simpa using hi)]
      rfl
theorem HasP.mk {w : World} {B b off : Nat} {l : List Pc} (hb : b < B) (hB : B ≤ w.heap.size) (h : ∀ i k (hi : i < l.length) (hk : k < 5), w.cell? ⟨b, off + i * 5 + k, none⟩ = (pc5 l[i])[k]?) : HasP w B (some ⟨b, off, none⟩) l :=
  .inr ⟨b, off, rfl, hb, hB, fun i hi => ⟨h i 0 hi (by omega), h i 1 hi (by omega), h i 2 hi (by omega), h i 3 hi (by omega), h i 4 hi (by omega)⟩⟩
theorem HasP.get {w : World} {b off : Nat} {l : List Pc} (hcs : ∀ i (h : i < l.length), w.cell? ⟨b, off + i * 5, none⟩ = some (.int .i64 l[i].kind) ∧
    w.cell? ⟨b, off + i * 5 + 1, none⟩ = some (.int .u64 (wd l[i].set 0)) ∧ w.cell? ⟨b, off + i * 5 + 2, none⟩ = some (.int .u64 (wd l[i].set 1)) ∧
    w.cell? ⟨b, off + i * 5 + 3, none⟩ = some (.int .u64 (wd l[i].set 2)) ∧ w.cell? ⟨b, off + i * 5 + 4, none⟩ = some (.int .u64 (wd l[i].set 3))) (i k : Nat) (hi : i < l.length) (hk : k < 5) : w.cell? ⟨b, off + i * 5 + k, none⟩ = (pc5 l[i])[k]? := by
  obtain ⟨h0, h1, h2, h3, h4⟩ := hcs i hi
  rcases (show k = 0 ∨ k = 1 ∨ k = 2 ∨ k = 3 ∨ k = 4 by omega) with rfl | rfl | rfl | rfl | rfl
  · exact h0
  · exact h1
  · exact h2
  · exact h3
  · exact h4
theorem run_app_nilP (w : World) (B : Nat) (a : Option Addr) (n : Nat) (l : List Pc) (cap : Nat) (hn : l.length = n) (hb : HasP w B a l) (hl : n ≤ 1099511627776) :
    ∃ a' cap' w', (Builtin.append_ #[26, 26] 26 #[.slice none 0 0, .slice a n cap]).run Tryd.prog w = .ok (.slice a' n cap') w' ∧ HasP w' w'.heap.size a' l ∧ n ≤ cap' ∧ cap' ≤ maxLen ∧ Below w.heap.size w w' := by
  subst hn
  obtain ⟨i0, hi, hz0, hz1, hz2⟩ := info_parts info70
  have ht := Tryd.underlying26
  rcases Nat.eq_zero_or_pos l.length with h0 | h0
  · have hl0 := List.length_eq_zero_iff.1 h0
    subst hl0
    refine ⟨none, 0, w, ?_, .inl rfl, Nat.le_refl _, by simp [maxLen], Below.refl _ _⟩
    cases a <;> simp [Builtin.append_, run_underlying ht, sizeOf, typeInfo, hi, Builtin.lenOf, Builtin.firstCells, loadCells, loadCellsFrom]
  · rcases hb with rfl | ⟨b, off, rfl, hlt, hBs, hc⟩
    · simp at h0
    have hbl : (pcells l).length = l.length * i0.size := by rw [hz1]; exact pcells_len l
    have hr := run_append_nil (P := Tryd.prog) w 26 26 70 i0 _ ht hi hz0 ⟨b, off, none⟩ l.length cap (pcells l) hbl (fun j v hj => by
      have hjl : j < l.length * 5 := by have := (List.getElem?_eq_some_iff.1 hj).1; rwa [pcells_len] at this
      have hadd : (⟨b, off, none⟩ : Addr).add j = ⟨b, off + j, none⟩ := by unfold Addr.add; split <;> simp_all
      have e1 := HasP.get hc (j / 5) (j % 5) (by omega) (by omega)
      have e2 := pcells_at l (j / 5) (j % 5) (by omega) (by omega)
      have e3 : off + j / 5 * 5 + j % 5 = off + j := by omega
      have e4 : j / 5 * 5 + j % 5 = j := by omega
      rw [e3] at e1
      rw [e4] at e2
      rw [hadd]
      exact e1.trans (e2.symm.trans hj)) h0 (by omega) (by rw [hz2]; omega)
    refine ⟨_, _, _, hr, HasP.mk (by simp) (Nat.le_refl _) (fun i k hi hk => ?_), grownCap_ge _ _ _ _, grownCap_le_maxLen _ _ _ _ (by simp [maxLen]; omega), ((Below.refl _ _).drew).alloc (Nat.le_refl _) _⟩
    rw [Nat.zero_add]
    refine (cell_of_heap (heap_alloc_new w.drew _)).trans ?_
    rw [Array.getElem?_append_left (by simp [pcells_len]; omega)]
    simpa using pcells_at l i k hi hk
/-- the block q holds a pattern -/
def PatAt (w : World) (q : Nat) (a : Option Addr) (n cap : Nat) : Prop := w.heap[q]? = some (.cells #[.slice a n cap] 62 (0, 0))
theorem wpList_append_run {P : Program} {w w' : World} {ops : Array Oper} {rest : List Oper} {o : Oper} {a : Act} {Q : Exit → Act → World → Prop} (hgd : o.guard = none) (s x : Operand) (t : TypeId)
    (ho : o.op = .call { callee := .builtin .append, args := #[s, x], argTypes := #[t, t] }) (v1 v2 v : Value) (hs : a.eval s = v1) (hx : a.eval x = v2)
    (hr : (Builtin.append_ #[t, t] o.type #[v1, v2]).run P w = .ok v w') (h : wpList P ops Q rest (a.put o.dst v) w') : wpList P ops Q (o :: rest) a w :=
  wpList_plain hgd fun _ hK => by
    unfold Oper.wp execOp
    simp only [ho, resolve, invoke, builtin, Sem.run_bind, Sem.run_pure, Result.andThen_ok, List.map_toArray, List.map_cons, List.map_nil, hs, hx, hr]
    exact hK _ _ h
set_option maxRecDepth 100000 in
set_option maxHeartbeats 400000 in
theorem pieces_any (w : World) (q B : Nat) (a : Option Addr) (n cap : Nat) (l : List Pc) (hn : l.length = n) (hq : PatAt w q a n cap) (hb : HasP w B a l) (hl : n ≤ 1099511627776) :
    Calls Tryd.prog 13 #[.pointer (some ⟨q, 0, none⟩)] w fun e w' => ∃ a' cap', e = .returned (.slice a' n cap') ∧ HasP w' w'.heap.size a' l ∧ n ≤ cap' ∧ cap' ≤ maxLen ∧ Below w.heap.size w w' := by
  obtain ⟨a', cap', w1, happ, hown, hl1, hl2, hg⟩ := run_app_nilP w B a n l cap hn hb hl
  have HA := Lib.hid happ
  have c0 : w.cell? ⟨q, 0, none⟩ = some (.slice a n cap) := by rw [World.cell?, show w.heap[q]? = _ from hq]; rfl
  clear happ
  have HO := Lib.hid hown
  have HG := Lib.hid hg
  clear hown hg hb hq
  go_enter Tryd.func13, Tryd.ntmps13
  go_wp2_with (at_builtin; refine wpList_append_run rfl _ _ _ rfl _ _ _ rfl rfl HA.out ?_)
  go_ret
  exact ⟨a', cap', rfl, HO.out, hl1, hl2, HG.out⟩
set_option maxRecDepth 100000 in
theorem pieces_nil (w : World) : Calls Tryd.prog 13 #[.pointer none] w fun e w' => e = .returned (.slice none 0 0) ∧ w = w' := by
  go_enter Tryd.func13, Tryd.ntmps13
  go_wp2_with fail
  go_ret
  exact ⟨rfl, rfl⟩
end Go.Proofs.YtafmhhhboihdfaaDoor
