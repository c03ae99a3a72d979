/-
  What a quoted text, stars around a pattern, two patterns with a star between them match. No condition.
-/
import Derived.Test.YtafmhhhboihdfaaDoorAwake
namespace Go.Proofs.YtafmhhhboihdfaaDoor
open Go.RowKit
set_option linter.unusedVariables false
/-- a text, quoted -/
def quoteS : List UInt8 → List UInt8
  | [] => []
  | c :: t => if c = 42 ∨ c = 63 ∨ c = 91 ∨ c = 92 then 92 :: c :: quoteS t else c :: quoteS t
theorem parse_quote (s : List UInt8) : parseS (quoteS s) = s.map oneP := by
  induction s with
  | nil => rw [quoteS, parseS]; rfl
  | cons c t ih =>
    rw [quoteS, List.map_cons]
    by_cases h : c = 42 ∨ c = 63 ∨ c = 91 ∨ c = 92
    · rw [if_pos h, parse_cons, if_neg (by decide), if_neg (by decide), if_neg (by decide), if_pos rfl]
      show oneP c :: parseS (quoteS t) = _
      rw [ih]
    · rw [if_neg h, parse_cons, if_neg (fun e => h (.inl e)), if_neg (fun e => h (.inr (.inl e))), if_neg (fun e => h (.inr (.inr (.inl e)))), if_neg (fun e => h (.inr (.inr (.inr e)))), ih]
theorem mt_ones (s t : List UInt8) : Mt (s.map oneP) t ↔ t = s := by
  induction s generalizing t with
  | nil => exact mt_nil t
  | cons c s ih =>
    rw [List.map_cons, mt_hit rfl]
    constructor
    · rintro ⟨d, v, rfl, h1, h2⟩
      rw [one_hits, decide_eq_true_eq] at h1
      rw [h1, (ih v).1 h2]
    · rintro rfl
      exact ⟨c, s, rfl, by rw [one_hits]; simp, (ih s).2 rfl⟩
theorem mat_quote (s t : List UInt8) : mat (parseS (quoteS s)) t = decide (t = s) := by
  rw [parse_quote, Bool.eq_iff_iff, mat_iff, mt_ones]; simp
theorem quote_len (s : List UInt8) : (quoteS s).length ≤ 2 * s.length ∧ s.length ≤ (quoteS s).length := by
  induction s with
  | nil => simp [quoteS]
  | cons c t ih => rw [quoteS]; split <;> (simp; omega)
theorem quote_append (s t : List UInt8) : quoteS (s ++ t) = quoteS s ++ quoteS t := by
  induction s with
  | nil => rfl
  | cons c s ih => rw [List.cons_append, quoteS, quoteS, ih]; split <;> rfl
/-- would a byte behind be read otherwise? -/
def openS : List UInt8 → Bool
  | [] => false
  | c :: t => if c = 91 then true else if c = 92 then match t with
    | [] => true
    | _ :: u => openS u
    else openS t
theorem parse_append : ∀ (n : Nat) (a t : List UInt8), a.length ≤ n → openS a = false → parseS (a ++ t) = parseS a ++ parseS t := by
  intro n
  induction n with
  | zero => intro a t hn h; rw [List.length_eq_zero_iff.1 (by omega : a.length = 0), show parseS [] = [] by rw [parseS]]; rfl
  | succ n ih =>
    intro a t hn h
    cases a with
    | nil => rw [show parseS [] = [] by rw [parseS]]; rfl
    | cons c a =>
      simp only [List.length_cons] at hn
      rw [openS.eq_def] at h
      simp only at h
      rw [List.cons_append, parse_cons, parse_cons c a]
      by_cases h0 : c = 91
      · rw [if_pos h0] at h; simp at h
      rw [if_neg h0] at h
      by_cases h1 : c = 42
      · have h2 : ¬ c = 92 := by rw [h1]; decide
        rw [if_neg h2] at h
        rw [if_pos h1, if_pos h1, ih a t (by omega) h]; rfl
      by_cases h2 : c = 63
      · have h3 : ¬ c = 92 := by rw [h2]; decide
        rw [if_neg h3] at h
        rw [if_neg h1, if_pos h2, if_neg h1, if_pos h2, ih a t (by omega) h]; rfl
      rw [if_neg h1, if_neg h2, if_neg h0, if_neg h1, if_neg h2, if_neg h0]
      by_cases h3 : c = 92
      · rw [if_pos h3] at h
        rw [if_pos h3, if_pos h3]
        cases a with
        | nil => simp at h
        | cons d u =>
          simp only at h
          show oneP d :: parseS (u ++ t) = _
          rw [ih u t (by simp at hn; omega) h]; rfl
      · rw [if_neg h3] at h
        rw [if_neg h3, if_neg h3, ih a t (by omega) h]; rfl
theorem parse_star (t : List UInt8) : parseS (42 :: t) = starP :: parseS t := by rw [parse_cons, if_pos rfl]
theorem parse_stars (b : List UInt8) (h : openS b = false) : parseS (42 :: (b ++ [42])) = starP :: (parseS b ++ [starP]) := by
  rw [parse_star, parse_append b.length b [42] (Nat.le_refl _) h, parse_star, show parseS [] = [] by rw [parseS]]
/-- does it match at the front of one of the ends? -/
def someS (l : List Pc) (s : List UInt8) : Nat → Bool
  | 0 => false
  | i + 1 => someS l s i || (prefS l (s.drop i) false).2
theorem some_iff (l : List Pc) (s : List UInt8) (n : Nat) : someS l s n = true ↔ ∃ i, i < n ∧ (prefS l (s.drop i) false).2 = true := by
  induction n with
  | zero => simp [someS]
  | succ n ih =>
    rw [someS, Bool.or_eq_true, ih]
    constructor
    · rintro (⟨i, h1, h2⟩ | h)
      · exact ⟨i, by omega, h2⟩
      · exact ⟨n, by omega, h⟩
    · rintro ⟨i, h1, h2⟩
      by_cases e : i = n
      · subst e; exact .inr h2
      · exact .inl ⟨i, by omega, h2⟩
theorem mat_stars (l : List Pc) (s : List UInt8) : mat (starP :: (l ++ [starP])) s = someS l s (s.length + 1) := by
  rw [Bool.eq_iff_iff, mat_iff, some_iff, mt_star rfl]
  constructor
  · rintro ⟨u, v, rfl, h⟩
    obtain ⟨x, y, rfl, h3⟩ := (mt_snoc_star rfl _ _).1 h
    exact ⟨u.length, by simp; omega, (prefS_ok _ _ _).2 ⟨x, y, by rw [List.drop_left], h3⟩⟩
  · rintro ⟨i, hi, h⟩
    obtain ⟨u, v, e, h⟩ := (prefS_ok _ _ _).1 h
    exact ⟨s.take i, s.drop i, (List.take_append_drop i s).symm, by rw [e]; exact (mt_snoc_star rfl _ _).2 ⟨u, v, rfl, h⟩⟩
theorem prefS_bd (l : List Pc) (s : List UInt8) (b : Bool) : (prefS l s b).1 ≤ s.length := by
  unfold prefS
  cases h : (bestTo (prefG l s) b (s.length + 1)).2 with
  | true => have := (best_at _ _ _ h).1; omega
  | false => rw [best_none _ _ _ h]; omega
theorem suffS_bd (l : List Pc) (s : List UInt8) (b : Bool) : (suffS l s b).1 ≤ s.length := by
  unfold suffS; split <;> (simp; try omega)
theorem pref_at (l : List Pc) (s : List UInt8) (b : Bool) (h : (prefS l s b).2 = true) : mat l (s.take (prefS l s b).1) = true := (best_at _ _ _ h).2
theorem suff_ok (l : List Pc) (s : List UInt8) (b : Bool) : (suffS l s b).2 = (bestTo (suffG l s) b (s.length + 1)).2 := by
  unfold suffS; split <;> simp_all
theorem suff_val (l : List Pc) (s : List UInt8) (b : Bool) (h : (suffS l s b).2 = true) : (suffS l s b).1 = s.length - (bestTo (suffG l s) b (s.length + 1)).1 := by
  have h2 := h
  rw [suff_ok] at h2
  unfold suffS; rw [if_pos h2]
theorem suff_at (l : List Pc) (s : List UInt8) (b : Bool) (h : (suffS l s b).2 = true) : mat l (s.drop (suffS l s b).1) = true := by
  rw [suff_val _ _ _ h]
  rw [suff_ok] at h
  exact (best_at _ _ _ h).2
theorem pref_least (u v : List UInt8) (p : List Pc) (h : Mt p u) : (prefS p (u ++ v) false).1 ≤ u.length := by
  refine best_first _ _ _ (by simp; omega) ?_
  unfold prefG; rw [List.take_left, mat_iff]; exact h
theorem pref_most (u v : List UInt8) (p : List Pc) (h : Mt p u) : u.length ≤ (prefS p (u ++ v) true).1 := by
  refine best_last _ _ _ (by simp; omega) ?_
  unfold prefG; rw [List.take_left, mat_iff]; exact h
theorem suff_last (u v : List UInt8) (p : List Pc) (h : Mt p v) : u.length ≤ (suffS p (u ++ v) false).1 := by
  have hk : (suffS p (u ++ v) false).2 = true := (suffS_ok _ _ _).2 ⟨u, v, rfl, h⟩
  rw [suff_val _ _ _ hk]
  have := best_first (suffG p (u ++ v)) ((u ++ v).length + 1) v.length (by simp; omega) (by
    unfold suffG; rw [List.length_append, Nat.add_sub_cancel, List.drop_left, mat_iff]; exact h)
  simp at this ⊢
  omega
theorem suff_front (u v : List UInt8) (p : List Pc) (h : Mt p v) : (suffS p (u ++ v) true).1 ≤ u.length := by
  have hk : (suffS p (u ++ v) true).2 = true := (suffS_ok _ _ _).2 ⟨u, v, rfl, h⟩
  rw [suff_val _ _ _ hk]
  have := best_last (suffG p (u ++ v)) ((u ++ v).length + 1) v.length (by simp; omega) (by
    unfold suffG; rw [List.length_append, Nat.add_sub_cancel, List.drop_left, mat_iff]; exact h)
  simp at this ⊢
  omega
theorem mat_cuts (p q : List Pc) (s : List UInt8) : mat (p ++ starP :: q) s = ((prefS p s false).2 && (suffS q s false).2 && decide ((prefS p s false).1 ≤ (suffS q s false).1)) := by
  rw [Bool.eq_iff_iff, mat_iff, mt_append, Bool.and_eq_true, Bool.and_eq_true, decide_eq_true_eq]
  constructor
  · rintro ⟨u, v, rfl, h1, h2⟩
    obtain ⟨x, y, rfl, h3⟩ := (mt_star rfl _ _).1 h2
    refine ⟨⟨(prefS_ok _ _ _).2 ⟨u, _, rfl, h1⟩, (suffS_ok _ _ _).2 ⟨u ++ x, y, by simp, h3⟩⟩, ?_⟩
    have a := pref_least u (x ++ y) p h1
    have b := suff_last (u ++ x) y q h3
    rw [List.append_assoc] at b
    simp at b
    omega
  · rintro ⟨⟨h1, h2⟩, h3⟩
    have a := pref_at _ _ _ h1
    have b := suff_at _ _ _ h2
    rw [mat_iff] at a b
    refine ⟨_, _, (List.take_append_drop (prefS p s false).1 s).symm, a, (mt_star rfl _ _).2 ⟨(s.drop (prefS p s false).1).take ((suffS q s false).1 - (prefS p s false).1), s.drop (suffS q s false).1, ?_, b⟩⟩
    conv => lhs; rw [← List.take_append_drop ((suffS q s false).1 - (prefS p s false).1) (s.drop (prefS p s false).1)]
    rw [List.drop_drop, show (prefS p s false).1 + ((suffS q s false).1 - (prefS p s false).1) = (suffS q s false).1 by omega]
theorem mat_pref (p : List Pc) (s : List UInt8) : mat p s = ((prefS p s true).2 && decide ((prefS p s true).1 = s.length)) := by
  rw [Bool.eq_iff_iff, mat_iff, Bool.and_eq_true, decide_eq_true_eq]
  constructor
  · intro h
    refine ⟨(prefS_ok _ _ _).2 ⟨s, [], by simp, h⟩, ?_⟩
    have a := pref_most s [] p h
    rw [List.append_nil] at a
    have := prefS_bd p s true
    omega
  · rintro ⟨h1, h2⟩
    have a := pref_at _ _ _ h1
    rw [h2, List.take_length, mat_iff] at a
    exact a
theorem mat_suff (p : List Pc) (s : List UInt8) : mat p s = ((suffS p s true).2 && decide ((suffS p s true).1 = 0)) := by
  rw [Bool.eq_iff_iff, mat_iff, Bool.and_eq_true, decide_eq_true_eq]
  constructor
  · intro h
    refine ⟨(suffS_ok _ _ _).2 ⟨[], s, by simp, h⟩, ?_⟩
    have a := suff_front [] s p h
    simpa using a
  · rintro ⟨h1, h2⟩
    have a := suff_at _ _ _ h1
    rw [h2, List.drop_zero, mat_iff] at a
    exact a
theorem pref_both (p : List Pc) (s : List UInt8) : (prefS p s true).2 = (prefS p s false).2 := by
  rw [Bool.eq_iff_iff, prefS_ok, prefS_ok]
theorem suff_both (p : List Pc) (s : List UInt8) : (suffS p s true).2 = (suffS p s false).2 := by
  rw [Bool.eq_iff_iff, suffS_ok, suffS_ok]
theorem pref_order (p : List Pc) (s : List UInt8) (h : (prefS p s true).2 = true) : (prefS p s false).1 ≤ (prefS p s true).1 := by
  obtain ⟨u, v, rfl, h3⟩ := (prefS_ok _ _ _).1 h
  exact Nat.le_trans (pref_least u v p h3) (pref_most u v p h3)
theorem suff_order (p : List Pc) (s : List UInt8) (h : (suffS p s true).2 = true) : (suffS p s true).1 ≤ (suffS p s false).1 := by
  obtain ⟨u, v, rfl, h3⟩ := (suffS_ok _ _ _).1 h
  exact Nat.le_trans (suff_front u v p h3) (suff_last u v p h3)
end Go.Proofs.YtafmhhhboihdfaaDoor
