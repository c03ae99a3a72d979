/-
  Cursors: what a cursor holds; New, Pos, Left, Peek, Next, Back. Conditions: those that each theorem names.
-/
import Derived.Test.YtcmeijeddjckjaaLawNoughts
namespace Go.Proofs.Ytcmeijeddjckjaa
open Go.RowKit
theorem info5 : (Try.prog.info? 5).map (fun i => (i.zero, i.size, i.bytes)) = some (some (.int .u8 0), 1, 1) := by kernel_rfl
/-- A slice's address over bytes that lie apart from the blocks below B. -/
def OwnB (w : World) (B : Nat) (a : Option Addr) (l : List UInt8) : Prop :=
  l = [] ∨ ∃ b off, a = some ⟨b, off, none⟩ ∧ B ≤ b ∧ b < w.heap.size ∧ ∀ i (h : i < l.length), w.cell? ⟨b, off + i, none⟩ = some (.int .u8 (iv l[i]))
theorem OwnB.has {w : World} {B : Nat} {a : Option Addr} {l : List UInt8} (h : OwnB w B a l) : HasB w a l := by
  rcases h with h | ⟨b, off, h1, _, h3, h4⟩
  · exact .inl h
  · exact .inr ⟨b, off, h1, h3, h4⟩
def bcells (l : List UInt8) : List Value := l.map fun c => .int .u8 (iv c)
theorem run_app_nil (w : World) (a : Option Addr) (l : List UInt8) (cap : Nat) (hb : HasB w a l) (hl : l.length ≤ 140737488351232) :
    ∃ a' cap' w', (Builtin.append_ #[22, 22] 22 #[.slice none 0 0, .slice a l.length cap]).run Try.prog w = .ok (.slice a' l.length cap') w' ∧ OwnB w' w.heap.size a' l ∧ l.length ≤ cap' ∧ cap' ≤ maxLen ∧ ∀ row, w.grownBy w' row := by
  obtain ⟨i0, hi, hz0, hz1, hz2⟩ := info_parts info5
  rcases hb with rfl | ⟨b, off, rfl, hlt, hc⟩
  · have ht := Try.underlying22
    refine ⟨none, 0, w, ?_, .inl rfl, Nat.le_refl _, by simp [maxLen], fun row => ⟨rfl, rfl, rfl, Nat.le_refl _, fun _ _ _ => rfl⟩⟩
    cases a <;> simp [Builtin.append_, run_underlying ht, sizeOf, typeInfo, hi, Builtin.lenOf, Builtin.firstCells, loadCells, loadCellsFrom]
  · rcases Nat.eq_zero_or_pos l.length with h0 | h0
    · have ht := Try.underlying22
      have hl0 := List.length_eq_zero_iff.1 h0
      subst hl0
      refine ⟨none, 0, w, ?_, .inl rfl, Nat.le_refl _, by simp [maxLen], fun row => ⟨rfl, rfl, rfl, Nat.le_refl _, fun _ _ _ => rfl⟩⟩
      simp [Builtin.append_, run_underlying ht, sizeOf, typeInfo, hi, Builtin.lenOf, Builtin.firstCells, loadCells, loadCellsFrom]
    · have hbl : (bcells l).length = l.length * i0.size := by rw [hz1]; simp [bcells]
      have hat : ∀ i (hi : i < l.length), (bcells l)[i]? = some (.int .u8 (iv l[i])) := fun i hi => by simp [bcells, hi]
      have hr := run_append_nil (P := Try.prog) w 22 22 5 i0 (.int .u8 0) Try.underlying22 hi hz0 ⟨b, off, none⟩ l.length cap (bcells l) hbl (fun j v hj => by
        have hjl : j < l.length := by have := (List.getElem?_eq_some_iff.1 hj).1; simpa [bcells] using this
        have hadd : (⟨b, off, none⟩ : Addr).add j = ⟨b, off + j, none⟩ := by unfold Addr.add; split <;> simp_all
        rw [hadd, hc j hjl, ← hat j hjl]; exact hj) h0 (by omega) (by rw [hz2]; omega)
      refine ⟨_, _, _, hr, .inr ⟨_, 0, rfl, Nat.le_refl _, by simp, fun i hi => ?_⟩, grownCap_ge _ _ _ _, grownCap_le_maxLen _ _ _ _ (by simp [maxLen]; omega), fun row => ⟨rfl, rfl, rfl, by simp, fun k hk _ => Below.heap_alloc w.drew _ k hk⟩⟩
      rw [Nat.zero_add]
      refine (cell_of_heap (heap_alloc_new w.drew _)).trans ?_
      rw [Array.getElem?_append_left (by simpa [bcells] using hi)]
      simpa using hat i hi
/-- The block c is a cursor over the bytes l, at the place k; c and the bytes' block lie below B. -/
def Cur (w : World) (B c : Nat) (l : List UInt8) (k : Nat) : Prop :=
  ∃ a cap, w.heap[c]? = some (.cells #[.slice a l.length cap, .int .i64 k] 61 (0, 0)) ∧
    (l = [] ∨ ∃ b off, a = some ⟨b, off, none⟩ ∧ b < B ∧ b ≠ c ∧ ∀ i (h : i < l.length), w.cell? ⟨b, off + i, none⟩ = some (.int .u8 (iv l[i]))) ∧
    k ≤ l.length ∧ l.length ≤ 140737488351232 ∧ l.length ≤ cap ∧ cap ≤ maxLen ∧ c < B ∧ B ≤ w.heap.size
theorem Cur.kept {w w' : World} {B c : Nat} {l : List UInt8} {k : Nat} {row : Option Nat} (h : Cur w B c l k) (g : w.grownBy w' row) (hr : ∀ r, row = some r → B ≤ r) : Cur w' B c l k := by
  obtain ⟨a, cap, h1, h2, h3, h4, h5, h6, h7, h8⟩ := h
  have hne : ∀ x, x < B → some x ≠ row := fun x hx e => by have := hr x e.symm; omega
  refine ⟨a, cap, (g.block c (by omega) (hne c h7)).trans h1, ?_, h3, h4, h5, h6, h7, Nat.le_trans h8 g.size⟩
  rcases h2 with h2 | ⟨b, off, ha, hb, hbc, hcell⟩
  · exact .inl h2
  · exact .inr ⟨b, off, ha, hb, hbc, fun i hi => (World.cell?_of_block (w := w) (a := ⟨b, off + i, none⟩) (g.block b (by omega) (hne b hb))).trans (hcell i hi)⟩
theorem grown_setCell (w : World) (c o : Nat) (v : Value) : w.grownBy (w.setCell ⟨c, o, none⟩ v) (some c) :=
  ⟨rfl, rfl, rfl, by simp [World.setCell], fun k _ hne => Below.heap_setCell w ⟨c, o, none⟩ v k (fun e => hne (congrArg some e))⟩
theorem Cur.moved {w : World} {B c : Nat} {l : List UInt8} {k : Nat} (h : Cur w B c l k) (k' : Nat) (hk : k' ≤ l.length) : Cur (w.setCell ⟨c, 1, none⟩ (.int .i64 k')) B c l k' := by
  obtain ⟨a, cap, h1, h2, h3, h4, h5, h6, h7, h8⟩ := h
  refine ⟨a, cap, heap_setCell_at w c 1 _ 61 (0, 0) _ h1, ?_, hk, h4, h5, h6, h7, by simpa [World.setCell] using h8⟩
  rcases h2 with h2 | ⟨b, off, ha, hb, hbc, hcell⟩
  · exact .inl h2
  · exact .inr ⟨b, off, ha, hb, hbc, fun i hi => (World.cell?_of_block (w := w) (a := ⟨b, off + i, none⟩) ((grown_setCell w c 1 _).block b (by omega) (fun e => hbc (Option.some.inj e)))).trans (hcell i hi)⟩
theorem drewN_grown (w : World) (n : Nat) (row : Option Nat) : w.grownBy (w.drewN n) row := by
  refine ⟨rfl, rfl, rfl, ?_, fun k hk _ => ?_⟩
  · simp [World.drewN]
  · rfl
theorem pos_any (w : World) (B c : Nat) (l : List UInt8) (k : Nat) (h : Cur w B c l k) :
    Calls Try.prog 32 #[.pointer (some ⟨c, 0, none⟩)] w fun e w' => e = .returned (.int .i64 k) ∧ w = w' := by
  obtain ⟨a, cap, h1, -, -⟩ := h
  have c0 : w.cell? ⟨c, 0, none⟩ = some (.slice a l.length cap) := by rw [World.cell?, h1]; rfl
  have c1 : w.cell? ⟨c, 1, none⟩ = some (.int .i64 k) := by rw [World.cell?, h1]; rfl
  clear h1
  go_enter Try.func32, Try.ntmps32
  go_wp2_with fail
  go_ret
  exact ⟨rfl, rfl⟩
set_option maxHeartbeats 400000 in
theorem left_any (w : World) (B c : Nat) (l : List UInt8) (k : Nat) (h : Cur w B c l k) :
    Calls Try.prog 29 #[.pointer (some ⟨c, 0, none⟩)] w fun e w' => e = .returned (.int .i64 ((l.length : Int) - k)) ∧ ∃ n, w' = w.drewN n := by
  obtain ⟨a, cap, h1, -, h3, h4, -⟩ := h
  have c0 : w.cell? ⟨c, 0, none⟩ = some (.slice a l.length cap) := by rw [World.cell?, h1]; rfl
  have c1 : w.cell? ⟨c, 1, none⟩ = some (.int .i64 k) := by rw [World.cell?, h1]; rfl
  have hw : IntKind.i64.wrap ((l.length : Int) - k) = (l.length : Int) - k := IntWalk.i64_in _ (by omega)
  clear h1
  go_enter Try.func29, Try.ntmps29
  go_wp2_with fail
  go_quiet (fail)
  go_wp2_with fail
  go_ret
  exact ⟨rfl, _, rfl⟩
end Go.Proofs.Ytcmeijeddjckjaa
