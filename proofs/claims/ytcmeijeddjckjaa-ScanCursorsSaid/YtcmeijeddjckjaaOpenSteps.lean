/-
  A slice of steps that came in is opened as a list of steps. Conditions: those that each theorem names.
-/
import Derived.Test.YtcmeijeddjckjaaOpen
import Derived.Test.YtcmeijeddjckjaaCursors
import Derived.Deep.Slices
import Derived.Deep.Fields
namespace Go.Proofs.Ytcmeijeddjckjaa
open Go.ChangeShapes Go.WideShapes Go.ChangeAt Go.RowKit Go.Deep
section
variable {H : Type} {enc : TypeId × Value → H}
theorem cells53 : Try.prog.cellsOf 53 = 3 := by kernel_rfl
theorem cells3 : Try.prog.cellsOf 3 = 1 := by kernel_rfl
theorem cells9 : Try.prog.cellsOf 9 = 1 := by kernel_rfl
theorem bytes53 : Try.prog.bytesOf 53 = 32 := by kernel_rfl
theorem open_step {W : World} {sp : Nat → Bool} {hd : Bool} {n : Nat} {cs : List Value} {x : DataW H × List MemPlace} (h : DataW.trod enc Try.prog W 0 sp hd n 53 cs = some x) :
    ∃ y : Int × Int × ByteArray, cs = [.int .i64 y.1, .int .i64 y.2.1, .string y.2.2] ∧ stepOk y := by
  obtain ⟨xs, m, -, -, hlen, hxl, hf⟩ := DataW.trod_struct Try.underlying53 h
  rw [cells53] at hlen
  match cs, hlen with
  | [c0, c1, c2], _ =>
    match xs, hxl with
    | [x0, x1, x2], _ =>
      have h0 := hf 0 _ rfl
      have h1 := hf 1 _ rfl
      have h2 := hf 2 _ rfl
      simp only [List.getElem?_cons_zero, List.getElem?_cons_succ] at h0 h1 h2
      obtain ⟨a, ea, -, wa⟩ := DataW.trod_int Try.underlying3 h0
      obtain ⟨b, eb, -, wb⟩ := DataW.trod_int Try.underlying3 h1
      obtain ⟨s, es, -, ws⟩ := DataW.trod_string Try.underlying9 h2
      cases ea; cases eb; cases es
      have := wf_bd_i64 wa
      have := wf_bd_i64 wb
      exact ⟨(a, b, s), rfl, by unfold stepOk; simp only [maxLen] at ws; refine ⟨?_, ?_, ?_, ?_, ?_⟩ <;> simp only <;> omega⟩
theorem open_steps {W : World} {a : Option Addr} {len cap : Nat} {d : DataW H} {p : List MemPlace} (h : DataW.Trod enc Try.prog W 0 (fun _ => true) true 51 (.slice a len cap) d p) :
    ∃ st : List (Int × Int × ByteArray), st.length = len ∧ st.length ≤ cap ∧ HasS W a st ∧ (cap = 0 ∨ ∃ xs ys, d = .slice xs ys ∧ xs.length + ys.length = cap) := by
  obtain ⟨fuel, hf⟩ := h
  rcases open_slice Try.underlying51 hf with ⟨hcs, _⟩ | ⟨x, l, c, m, n, D, Pl, hcs, _, hl, hm, hmm, hd, hel⟩
  · simp [Value.cells] at hcs
    obtain ⟨rfl, rfl, rfl⟩ := hcs
    exact ⟨[], rfl, by simp, .inl rfl, .inl rfl⟩
  · simp [Value.cells] at hcs
    obtain ⟨rfl, rfl, rfl⟩ := hcs
    simp only [if_true] at hmm
    subst hmm
    have key : ∀ i, ∃ y : Int × Int × ByteArray, i < m → W.cell? (x.add (i * 3)) = some (.int .i64 y.1) ∧ W.cell? (x.add (i * 3 + 1)) = some (.int .i64 y.2.1) ∧ W.cell? (x.add (i * 3 + 2)) = some (.string y.2.2) ∧ stepOk y := by
      intro i
      by_cases hi : i < m
      · obtain ⟨cs', hc, ht⟩ := hel i hi
        rw [cells53] at hc
        obtain ⟨y, rfl, hy⟩ := open_step ht
        obtain ⟨-, -, hat⟩ := World.cells?_some hc
        refine ⟨y, fun _ => ⟨?_, ?_, ?_, hy⟩⟩
        · have := hat 0 (by omega); rwa [Go.Deep.add_add] at this
        · have := hat 1 (by omega); rwa [Go.Deep.add_add] at this
        · have := hat 2 (by omega); rwa [Go.Deep.add_add] at this
      · exact ⟨(0, 0, ⟨#[]⟩), fun h => absurd h hi⟩
    obtain ⟨f, hfn⟩ := Classical.skolem.1 key
    refine ⟨(List.range len).map f, by simp, by simpa using hl, ?_, .inr ⟨_, _, (Prod.mk.inj hd).1, by simp; omega⟩⟩
    rcases Nat.eq_zero_or_pos len with h0 | h0
    · exact .inl (by simp [h0])
    · right
      obtain ⟨b, off, spot⟩ := x
      have hc0 := (hfn 0 (by omega)).1
      have hspot : spot = none := by simpa [Addr.add] using World.cell?_spot hc0
      subst hspot
      refine ⟨b, off, rfl, World.block_lt_of_cell? W _ hc0, fun i hi => ?_⟩
      have hadd : ∀ o, (⟨b, off, none⟩ : Addr).add o = ⟨b, off + o, none⟩ := fun o => by unfold Addr.add; split <;> simp_all
      simp only [List.length_map, List.length_range] at hi
      obtain ⟨q0, q1, q2, q3⟩ := hfn i (by omega)
      rw [hadd] at q0 q1 q2
      simp only [List.getElem_map, List.getElem_range]
      exact ⟨q0, by rw [Nat.add_assoc]; exact q1, by rw [Nat.add_assoc]; exact q2, q3⟩
theorem steps_reach {ts : List TypeId} {ds : List (DataW H)} (h : (DataW.weightsEach Try.prog ts ds).all (· ≤ reachBytes) = true) {j : Nat} {cap : Nat} {d : DataW H} (ht : ts[j]? = some 51) (hj : ds[j]? = some d)
    (hd : cap = 0 ∨ ∃ xs ys, d = .slice xs ys ∧ xs.length + ys.length = cap) : cap ≤ 140737488351232 := by
  rcases hd with rfl | ⟨xs, ys, rfl, rfl⟩
  · omega
  · have := sized_slice h ht hj Try.underlying51
    rw [bytes53, reachBytes] at this
    omega
end
end Go.Proofs.Ytcmeijeddjckjaa
