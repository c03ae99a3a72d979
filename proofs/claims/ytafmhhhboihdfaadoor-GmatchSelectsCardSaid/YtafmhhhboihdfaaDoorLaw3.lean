/-
  What the document's answer computes of pieces and bytes, and that it is the same. No condition.
-/
import Derived.Test.YtafmhhhboihdfaaDoorLaw
namespace Go.Proofs.YtafmhhhboihdfaaDoor
open Go.RowKit
set_option linter.unusedVariables false
/-- is one of the first places on? -/
def orTo (f : Nat → Bool) : Nat → Bool
  | 0 => f 0
  | k + 1 => orTo f k || f (k + 1)
theorem orTo_iff (f : Nat → Bool) (k : Nat) : orTo f k = true ↔ ∃ j, j ≤ k ∧ f j = true := by
  induction k with
  | zero => 
    rw [orTo]
    exact ⟨fun h => ⟨0, Nat.le_refl _, h⟩, fun ⟨j, h1, h2⟩ => by rwa [show j = 0 by omega] at h2⟩
  | succ k ih =>
    rw [orTo, Bool.or_eq_true, ih]
    constructor
    · rintro (⟨j, h1, h2⟩ | h)
      · exact ⟨j, by omega, h2⟩
      · exact ⟨k + 1, by omega, h⟩
    · rintro ⟨j, h1, h2⟩
      by_cases e : j = k + 1
      · subst e; exact .inr h2
      · exact .inl ⟨j, by omega, h2⟩
/-- does a piece match the byte at a place? -/
def hitAt (p : Pc) (s : List UInt8) (k : Nat) : Bool := match s[k]? with | some c => p.hits c | none => false
/-- the places behind a piece -/
def stepF (p : Pc) (s : List UInt8) (f : Nat → Bool) (k : Nat) : Bool :=
  if p.star then orTo f k else match k with | 0 => false | k + 1 => f k && hitAt p s k
def endsF (l : List Pc) (s : List UInt8) (i : Nat) : Nat → Bool := l.foldl (fun f p => stepF p s f) (fun k => decide (k = i))
theorem endsF_snoc (l : List Pc) (p : Pc) (s : List UInt8) (i : Nat) : endsF (l ++ [p]) s i = stepF p s (endsF l s i) := by simp [endsF]
theorem ends_iff (l : List Pc) (s : List UInt8) (i : Nat) (hi : i ≤ s.length) (k : Nat) (hk : k ≤ s.length) : endsF l s i k = true ↔ i ≤ k ∧ Mt l ((s.drop i).take (k - i)) := by
  suffices h : ∀ (n : Nat) (l : List Pc), l.length = n → ∀ k, k ≤ s.length → (endsF l s i k = true ↔ i ≤ k ∧ Mt l ((s.drop i).take (k - i))) from h _ l rfl k hk
  intro n
  induction n with
  | zero =>
    intro l hl k hk
    rw [List.length_eq_zero_iff] at hl; subst hl
    rw [mt_nil]
    simp only [endsF, List.foldl_nil, decide_eq_true_eq]
    constructor
    · rintro rfl; exact ⟨Nat.le_refl _, by simp⟩
    · rintro ⟨h1, h2⟩
      have := congrArg List.length h2
      simp at this; omega
  | succ n ih =>
    intro l hl k hk
    rcases List.eq_nil_or_concat l with rfl | ⟨l0, p, rfl⟩
    · simp at hl
    rw [List.concat_eq_append] at hl ⊢
    have ih' := ih l0 (by simpa using hl)
    rw [endsF_snoc]; unfold stepF
    cases hp : p.star with
    | true =>
      rw [if_pos rfl, orTo_iff, mt_snoc_star hp]
      constructor
      · rintro ⟨j, hj, h⟩
        obtain ⟨h1, h2⟩ := (ih' j (by omega)).1 h
        refine ⟨by omega, _, ((s.drop i).take (k - i)).drop (j - i), (List.take_append_drop (j - i) _).symm, ?_⟩
        rw [List.take_take, Nat.min_eq_left (by omega)]; exact h2
      · rintro ⟨h1, u, v, e, h⟩
        have hl := congrArg List.length e
        simp at hl
        refine ⟨i + u.length, by omega, (ih' _ (by omega)).2 ⟨by omega, ?_⟩⟩
        have := congrArg (List.take u.length) e
        rw [List.take_left, List.take_take, Nat.min_eq_left (by omega)] at this
        rw [Nat.add_sub_cancel_left, this]; exact h
    | false =>
      rw [if_neg (by simp), mt_snoc_hit hp]
      cases k with
      | zero =>
        simp
      | succ k =>
        show (endsF l0 s i k && hitAt p s k) = true ↔ _
        rw [Bool.and_eq_true, ih' k (by omega)]
        have hkl : k < s.length := by omega
        have hh : hitAt p s k = p.hits s[k] := by unfold hitAt; rw [List.getElem?_eq_getElem hkl]
        rw [hh]
        constructor
        · rintro ⟨⟨h1, h2⟩, h3⟩
          refine ⟨by omega, _, s[k], ?_, h2, h3⟩
          rw [show k + 1 - i = (k - i) + 1 by omega, take_one' _ _ (by simp; omega)]
          congr 2
          rw [List.getElem_drop]; congr 1; omega
        · rintro ⟨h1, u, c, e, h, hc⟩
          by_cases hik : i = k + 1
          · have := congrArg List.length e
            simp at this; omega
          rw [show k + 1 - i = (k - i) + 1 by omega, take_one' _ _ (by simp; omega)] at e
          obtain ⟨e1, e2⟩ := List.append_inj' e rfl
          simp only [List.cons.injEq, and_true] at e2
          rw [List.getElem_drop] at e2
          refine ⟨⟨by omega, by rw [e1]; exact h⟩, ?_⟩
          rw [← e2] at hc
          have : s[i + (k - i)]'(by omega) = s[k] := by congr 1; omega
          rw [this] at hc; exact hc
theorem ends_all (l : List Pc) (s : List UInt8) : endsF l s 0 s.length = mat l s := by
  rw [Bool.eq_iff_iff, mat_iff, ends_iff l s 0 (by omega) _ (Nat.le_refl _)]
  simp
theorem ends_pref (l : List Pc) (s : List UInt8) (j : Nat) (h : j ≤ s.length) : endsF l s 0 j = prefG l s j := by
  unfold prefG
  rw [Bool.eq_iff_iff, mat_iff, ends_iff l s 0 (by omega) _ h]
  simp
theorem ends_suff (l : List Pc) (s : List UInt8) (t : Nat) (h : t ≤ s.length) : endsF l s (s.length - t) s.length = suffG l s t := by
  unfold suffG
  rw [Bool.eq_iff_iff, mat_iff, ends_iff l s _ (by omega) _ (Nat.le_refl _)]
  rw [List.take_of_length_le (by simp)]
  simp
/-- the best of the places, as it is gone through from the front -/
theorem best_ends (l : List Pc) (s : List UInt8) (b : Bool) (n : Nat) (h : n ≤ s.length + 1) : bestTo (endsF l s 0) b n = bestTo (prefG l s) b n :=
  best_congr b n fun j hj => ends_pref l s j (by omega)
end Go.Proofs.YtafmhhhboihdfaaDoor
