/-
  What pieces match: the run over the bytes and the plain words of the document say the same. No condition.
-/
import Derived.Test.YtafmhhhboihdfaaDoorMatch
namespace Go.Proofs.YtafmhhhboihdfaaDoor
open Go.RowKit
set_option linter.unusedVariables false
/-- is a piece a star? -/
def Pc.star (p : Pc) : Bool := p.kind == 3
/-- does a piece that is no star match a byte? -/
def Pc.hits (p : Pc) (c : UInt8) : Bool := p.kind == 2 || p.set.getLsbD c.toNat
/-- some pieces match some bytes from end to end -/
def Mt : List Pc → List UInt8 → Prop
  | [], s => s = []
  | p :: l, s => if p.star = true then ∃ u v, s = u ++ v ∧ Mt l v else ∃ c v, s = c :: v ∧ p.hits c = true ∧ Mt l v
theorem mt_nil (s : List UInt8) : Mt [] s ↔ s = [] := Iff.rfl
theorem mt_star {p : Pc} (h : p.star = true) (l : List Pc) (s : List UInt8) : Mt (p :: l) s ↔ ∃ u v, s = u ++ v ∧ Mt l v := by
  simp only [Mt, h, if_true]
theorem mt_hit {p : Pc} (h : p.star = false) (l : List Pc) (s : List UInt8) : Mt (p :: l) s ↔ ∃ c v, s = c :: v ∧ p.hits c = true ∧ Mt l v := by
  simp [Mt, h]
theorem mt_append (l1 l2 : List Pc) (s : List UInt8) : Mt (l1 ++ l2) s ↔ ∃ u v, s = u ++ v ∧ Mt l1 u ∧ Mt l2 v := by
  induction l1 generalizing s with
  | nil => 
    constructor
    · intro h; exact ⟨[], s, rfl, rfl, h⟩
    · rintro ⟨u, v, rfl, hu, hv⟩; rw [mt_nil] at hu; subst hu; exact hv
  | cons p l ih =>
    rw [List.cons_append]
    cases hp : p.star with
    | true =>
      rw [mt_star hp]
      constructor
      · rintro ⟨u, v, rfl, h⟩
        obtain ⟨a, b, rfl, ha, hb⟩ := (ih v).1 h
        exact ⟨u ++ a, b, by simp, (mt_star hp _ _).2 ⟨u, a, rfl, ha⟩, hb⟩
      · rintro ⟨u, v, rfl, h, hv⟩
        obtain ⟨a, b, rfl, hb⟩ := (mt_star hp _ _).1 h
        exact ⟨a, b ++ v, by simp, (ih _).2 ⟨b, v, rfl, hb, hv⟩⟩
    | false =>
      rw [mt_hit hp]
      constructor
      · rintro ⟨c, v, rfl, hc, h⟩
        obtain ⟨a, b, rfl, ha, hb⟩ := (ih v).1 h
        exact ⟨c :: a, b, by simp, (mt_hit hp _ _).2 ⟨c, a, rfl, hc, ha⟩, hb⟩
      · rintro ⟨u, v, rfl, h, hv⟩
        obtain ⟨c, b, rfl, hc, hb⟩ := (mt_hit hp _ _).1 h
        exact ⟨c, b ++ v, by simp, hc, (ih _).2 ⟨b, v, rfl, hb, hv⟩⟩
theorem mt_one_star {p : Pc} (h : p.star = true) (s : List UInt8) : Mt [p] s := (mt_star h _ _).2 ⟨s, [], by simp, rfl⟩
theorem mt_one_hit {p : Pc} (h : p.star = false) (s : List UInt8) : Mt [p] s ↔ ∃ c, s = [c] ∧ p.hits c = true := by
  rw [mt_hit h]
  constructor
  · rintro ⟨c, v, rfl, hc, hv⟩; rw [mt_nil] at hv; subst hv; exact ⟨c, rfl, hc⟩
  · rintro ⟨c, rfl, hc⟩; exact ⟨c, [], rfl, hc, rfl⟩
theorem mt_snoc_star {p : Pc} (h : p.star = true) (l : List Pc) (s : List UInt8) : Mt (l ++ [p]) s ↔ ∃ u v, s = u ++ v ∧ Mt l u := by
  rw [mt_append]
  exact ⟨fun ⟨u, v, e, a, _⟩ => ⟨u, v, e, a⟩, fun ⟨u, v, e, a⟩ => ⟨u, v, e, a, mt_one_star h v⟩⟩
theorem mt_snoc_hit {p : Pc} (h : p.star = false) (l : List Pc) (s : List UInt8) : Mt (l ++ [p]) s ↔ ∃ u c, s = u ++ [c] ∧ Mt l u ∧ p.hits c = true := by
  rw [mt_append]
  constructor
  · rintro ⟨u, v, rfl, a, b⟩
    obtain ⟨c, rfl, hc⟩ := (mt_one_hit h v).1 b
    exact ⟨u, c, rfl, a, hc⟩
  · rintro ⟨u, c, rfl, a, hc⟩
    exact ⟨u, [c], rfl, a, (mt_one_hit h _).2 ⟨c, rfl, hc⟩⟩
/-- behind a star: one byte more -/
theorem mt_star_more {p : Pc} (h : p.star = true) (l : List Pc) (s : List UInt8) (c : UInt8) : Mt (l ++ [p]) (s ++ [c]) ↔ Mt l (s ++ [c]) ∨ Mt (l ++ [p]) s := by
  rw [mt_snoc_star h, mt_snoc_star h]
  constructor
  · rintro ⟨u, v, e, a⟩
    rcases List.eq_nil_or_concat v with rfl | ⟨v', d, rfl⟩
    · rw [List.append_nil] at e; subst e; exact .inl a
    · rw [List.concat_eq_append, ← List.append_assoc] at e
      obtain ⟨e1, -⟩ := List.append_inj' e rfl
      exact .inr ⟨u, v', e1, a⟩
  · rintro (a | ⟨u, v, rfl, a⟩)
    · exact ⟨s ++ [c], [], by simp, a⟩
    · exact ⟨u, v ++ [c], by simp, a⟩
theorem kd_star {l : List Pc} {i : Nat} (h : i < l.length) : (kd l i == 3) = l[i].star := by rw [kd_in h]; rfl
theorem hit_hits {l : List Pc} {i : Nat} (h : i < l.length) (c : UInt8) : hit l c.toNat i = l[i].hits c := by
  unfold hit Pc.hits; rw [kd_in h, stt_in h]
theorem take_one' {α : Type} (l : List α) (k : Nat) (h : k < l.length) : l.take (k + 1) = l.take k ++ [l[k]] := by
  rw [List.take_add_one, List.getElem?_eq_getElem h]; rfl
/-- the places of a run, said plainly -/
def Gr (l : List Pc) (s : List UInt8) (i : Nat) : Prop := Mt (l.take i) s ∨ (i < l.length ∧ (kd l i == 3) = true ∧ Mt (l.take (i + 1)) s)
theorem gr_begin (l : List Pc) (i : Nat) (hi : i ≤ l.length) : sprd l st0 i = true ↔ Gr l [] i := by
  have key : ∀ i, i ≤ l.length → (sprd l st0 i = true ↔ Mt (l.take i) []) := by
    intro i
    induction i with
    | zero => intro _; simp [sprd, st0, Mt]
    | succ i ih =>
      intro h
      have hs := kd_star (l := l) (i := i) (by omega)
      rw [take_one' _ _ (by omega), sprd, hs, Bool.or_eq_true, Bool.and_eq_true, ih (by omega)]
      cases hp : l[i].star with
      | true =>
        rw [mt_snoc_star hp]
        constructor
        · rintro (h | ⟨h, -⟩)
          · simp [st0] at h
          · exact ⟨[], [], rfl, h⟩
        · rintro ⟨u, v, e, h⟩
          obtain ⟨rfl, rfl⟩ := List.append_eq_nil_iff.1 e.symm
          exact .inr ⟨h, rfl⟩
      | false =>
        rw [mt_snoc_hit hp]
        constructor
        · rintro (h | ⟨h, h2⟩)
          · simp [st0] at h
          · simp at h2
        · rintro ⟨u, c, e, -⟩
          simp at e
  rw [key i hi]
  constructor
  · exact .inl
  · rintro (h | ⟨h1, h2, h3⟩)
    · exact h
    · rw [take_one' _ _ h1] at h3
      rw [kd_star h1] at h2
      obtain ⟨u, v, e, h⟩ := (mt_snoc_star h2 _ _).1 h3
      obtain ⟨rfl, rfl⟩ := List.append_eq_nil_iff.1 e.symm
      exact h
theorem gr_step (l : List Pc) (s : List UInt8) (c : UInt8) (f : Nat → Bool) (hf : ∀ i, i ≤ l.length → (f i = true ↔ Gr l s i)) (i : Nat) (hi : i ≤ l.length) :
    sprd l (nxtTo l f c.toNat l.length) i = true ↔ Gr l (s ++ [c]) i := by
  have hstar : ∀ i (h : i < l.length), l[i].star = true → (f i = true ↔ Mt (l.take (i + 1)) s) := by
    intro i h hp
    rw [hf i (by omega)]
    unfold Gr
    rw [kd_star h]
    constructor
    · rintro (h1 | ⟨-, -, h1⟩)
      · rw [take_one' _ _ h]; exact (mt_snoc_star hp _ _).2 ⟨s, [], by simp, h1⟩
      · exact h1
    · intro h1; exact .inr ⟨h, hp, h1⟩
  have hno : ∀ i (h : i < l.length), l[i].star = false → (f i = true ↔ Mt (l.take i) s) := by
    intro i h hp
    rw [hf i (by omega)]
    unfold Gr
    rw [kd_star h]
    constructor
    · rintro (h1 | ⟨-, h1, -⟩)
      · exact h1
      · rw [hp] at h1; simp at h1
    · exact .inl
  have key : ∀ i, i ≤ l.length → (sprd l (nxtTo l f c.toNat l.length) i = true ↔ (Mt (l.take i) (s ++ [c]) ∨ (i < l.length ∧ (kd l i == 3) = true ∧ Mt (l.take (i + 1)) s))) := by
    have h0 : ∀ i, (decide (i < l.length) && f i && kd l i == 3) = true ↔ (i < l.length ∧ (kd l i == 3) = true ∧ Mt (l.take (i + 1)) s) := by
      intro i
      by_cases h : i < l.length
      · rw [kd_star h]
        cases hp : l[i].star with
        | true => simp only [h, decide_true, Bool.true_and, Bool.and_true, true_and]; exact hstar i h hp
        | false => simp
      · simp [h]
    intro i
    induction i with
    | zero =>
      intro _
      show (decide (0 < l.length) && f 0 && kd l 0 == 3) = true ↔ _
      rw [h0]
      constructor
      · exact .inr
      · rintro (h | h)
        · rw [List.take_zero, mt_nil] at h; simp at h
        · exact h
    | succ i ih =>
      intro h
      have hs := kd_star (l := l) (i := i) (by omega)
      rw [sprd, nxtTo_succ, Bool.or_eq_true, Bool.or_eq_true, h0, Bool.and_eq_true (sprd l (nxtTo l f c.toNat l.length) i), ih (by omega), take_one' l i (by omega)]
      cases hp : l[i].star with
      | true =>
        rw [hs, hp]
        have e := mt_star_more hp (l.take i) s c
        rw [e]
        constructor
        · rintro ((h | h) | ⟨h, -⟩)
          · exact .inr h
          · simp at h
          · rcases h with h | ⟨-, -, h⟩
            · exact .inl (.inl h)
            · exact .inl (.inr h)
        · rintro ((h1 | h1) | h)
          · exact .inr ⟨.inl h1, rfl⟩
          · exact .inr ⟨.inr ⟨by omega, rfl, h1⟩, rfl⟩
          · exact .inl (.inl h)
      | false =>
        rw [hs, hp, hit_hits (l := l) (i := i) (by omega)]
        have e := mt_snoc_hit hp (l.take i) (s ++ [c])
        rw [e]
        have hn := hno i (by omega) hp
        constructor
        · rintro ((h1 | h1) | ⟨-, h1⟩)
          · exact .inr h1
          · simp only [Bool.and_eq_true, decide_eq_true_eq, Bool.not_false, and_true] at h1
            exact .inl ⟨s, c, rfl, hn.1 h1.1.2, h1.2⟩
          · simp at h1
        · rintro (⟨u, d, e, h1, h2⟩ | h1)
          · obtain ⟨e1, e2⟩ := List.append_inj' e rfl
            simp only [List.cons.injEq, and_true] at e2
            subst e1; subst e2
            refine .inl (.inr ?_)
            simp only [Bool.and_eq_true, decide_eq_true_eq, Bool.not_false, and_true]
            exact ⟨⟨by omega, hn.2 h1⟩, h2⟩
          · exact .inl (.inl h1)
  rw [key i hi]
  unfold Gr
  constructor
  · rintro (h | ⟨h1, h2, h3⟩)
    · exact .inl h
    · refine .inr ⟨h1, h2, ?_⟩
      rw [take_one' _ _ h1] at h3 ⊢
      rw [kd_star h1] at h2
      exact (mt_star_more h2 _ _ _).2 (.inr h3)
  · rintro (h | ⟨h1, h2, h3⟩)
    · exact .inl h
    · rw [take_one' _ _ h1] at h3
      have h2' := h2
      rw [kd_star h1] at h2'
      rcases (mt_star_more h2' _ _ _).1 h3 with h | h
      · exact .inl h
      · exact .inr ⟨h1, h2, by rw [take_one' _ _ h1]; exact h⟩
theorem runs_iff (l : List Pc) (s : List UInt8) : ∀ i, i ≤ l.length → ((runs l s).1 i = true ↔ Gr l s i) := by
  rcases List.eq_nil_or_concat s with rfl | _
  · exact fun i hi => gr_begin l i hi
  · suffices h : ∀ (n : Nat) (s : List UInt8), s.length = n → ∀ i, i ≤ l.length → ((runs l s).1 i = true ↔ Gr l s i) from h _ s rfl
    intro n
    induction n with
    | zero => intro s hs; rw [List.length_eq_zero_iff] at hs; subst hs; exact fun i hi => gr_begin l i hi
    | succ n ih =>
      intro s hs
      rcases List.eq_nil_or_concat s with rfl | ⟨s', c, rfl⟩
      · simp at hs
      · rw [List.concat_eq_append] at hs ⊢
        rw [runs_snoc]
        exact fun i hi => gr_step l s' c _ (ih s' (by simpa using hs)) i hi
theorem mat_iff (l : List Pc) (s : List UInt8) : mat l s = true ↔ Mt l s := by
  unfold mat
  rw [runs_iff l s l.length (Nat.le_refl _)]
  unfold Gr
  rw [List.take_length]
  constructor
  · rintro (h | ⟨h, -⟩)
    · exact h
    · omega
  · exact .inl
theorem mt_reverse (l : List Pc) (s : List UInt8) : Mt l.reverse s.reverse ↔ Mt l s := by
  induction l generalizing s with
  | nil => simp [Mt]
  | cons p l ih =>
    rw [List.reverse_cons]
    cases hp : p.star with
    | true =>
      rw [mt_snoc_star hp, mt_star hp]
      constructor
      · rintro ⟨u, v, e, h⟩
        refine ⟨v.reverse, u.reverse, by rw [← List.reverse_append, ← e, List.reverse_reverse], ?_⟩
        rw [← ih, List.reverse_reverse]; exact h
      · rintro ⟨u, v, rfl, h⟩
        exact ⟨v.reverse, u.reverse, by simp, (ih v).2 h⟩
    | false =>
      rw [mt_snoc_hit hp, mt_hit hp]
      constructor
      · rintro ⟨u, c, e, h, hc⟩
        refine ⟨c, u.reverse, ?_, hc, ?_⟩
        · have := congrArg List.reverse e; simpa using this
        · rw [← ih, List.reverse_reverse]; exact h
      · rintro ⟨c, v, rfl, hc, h⟩
        exact ⟨v.reverse, c, by simp, (ih v).2 h, hc⟩
theorem bool_eq_of_iff {a b : Bool} (h : a = true ↔ b = true) : a = b := Bool.eq_iff_iff.2 h
theorem mat_reverse (l : List Pc) (s : List UInt8) : mat l.reverse s.reverse = mat l s := bool_eq_of_iff (by rw [mat_iff, mat_iff, mt_reverse])
/-- the best of some places, as they are gone through: the last one, or the first one -/
def bestTo (g : Nat → Bool) (longest : Bool) : Nat → Nat × Bool
  | 0 => (0, false)
  | j + 1 => if g j && (longest || !(bestTo g longest j).2) then (j, true) else bestTo g longest j
theorem best_ok (g : Nat → Bool) (b : Bool) (n : Nat) : (bestTo g b n).2 = true ↔ ∃ j, j < n ∧ g j = true := by
  induction n with
  | zero => simp [bestTo]
  | succ n ih =>
    rw [bestTo]
    by_cases h : (g n && (b || !(bestTo g b n).2)) = true
    · rw [if_pos h]
      simp only [Bool.and_eq_true] at h
      exact ⟨fun _ => ⟨n, by omega, h.1⟩, fun _ => rfl⟩
    · rw [if_neg h, ih]
      constructor
      · rintro ⟨j, h1, h2⟩; exact ⟨j, by omega, h2⟩
      · rintro ⟨j, h1, h2⟩
        by_cases e : j = n
        · subst e
          rw [h2, Bool.true_and, Bool.or_eq_true, not_or] at h
          have h3 : (bestTo g b j).2 = true := by simpa using h.2
          exact ih.1 h3
        · exact ⟨j, by omega, h2⟩
theorem best_at (g : Nat → Bool) (b : Bool) (n : Nat) (h : (bestTo g b n).2 = true) : (bestTo g b n).1 < n ∧ g (bestTo g b n).1 = true := by
  induction n with
  | zero => simp [bestTo] at h
  | succ n ih =>
    rw [bestTo] at h ⊢
    by_cases h1 : (g n && (b || !(bestTo g b n).2)) = true
    · rw [if_pos h1]
      simp only [Bool.and_eq_true] at h1
      exact ⟨by simp, h1.1⟩
    · rw [if_neg h1] at h ⊢
      have := ih h
      exact ⟨by omega, this.2⟩
theorem best_none (g : Nat → Bool) (b : Bool) (n : Nat) (h : (bestTo g b n).2 = false) : (bestTo g b n).1 = 0 := by
  induction n with
  | zero => rfl
  | succ n ih =>
    rw [bestTo] at h ⊢
    by_cases h1 : (g n && (b || !(bestTo g b n).2)) = true
    · rw [if_pos h1] at h; simp at h
    · rw [if_neg h1] at h ⊢; exact ih h
theorem best_last (g : Nat → Bool) (n j : Nat) (hj : j < n) (h : g j = true) : j ≤ (bestTo g true n).1 := by
  induction n with
  | zero => omega
  | succ n ih =>
    rw [bestTo, Bool.true_or, Bool.and_true]
    by_cases h1 : g n = true
    · rw [if_pos h1]; simp; omega
    · rw [if_neg h1]
      by_cases e : j = n
      · subst e; exact absurd h h1
      · exact ih (by omega)
theorem best_first (g : Nat → Bool) (n j : Nat) (hj : j < n) (h : g j = true) : (bestTo g false n).1 ≤ j := by
  induction n with
  | zero => omega
  | succ n ih =>
    rw [bestTo, Bool.false_or]
    by_cases h1 : (g n && !(bestTo g false n).2) = true
    · rw [if_pos h1]
      simp only [Bool.and_eq_true, Bool.not_eq_true'] at h1
      by_cases e : j = n
      · subst e; simp
      · exfalso
        have := (best_ok g false n).2 ⟨j, by omega, h⟩
        rw [h1.2] at this; simp at this
    · rw [if_neg h1]
      by_cases e : j = n
      · subst e
        rw [h, Bool.true_and, Bool.not_eq_true', Bool.not_eq_false] at h1
        have := (best_at g false j h1).1
        omega
      · exact ih (by omega)
theorem best_stop (g : Nat → Bool) (i n : Nat) (hi : i < n) (h : g i = true) (h0 : (bestTo g false i).2 = false) : bestTo g false n = (i, true) := by
  induction n with
  | zero => omega
  | succ n ih =>
    rw [bestTo, Bool.false_or]
    by_cases e : i = n
    · subst e; rw [h, h0]; rfl
    · rw [ih (by omega)]; simp
theorem best_congr {g g' : Nat → Bool} (b : Bool) (n : Nat) (h : ∀ j, j < n → g j = g' j) : bestTo g b n = bestTo g' b n := by
  induction n with
  | zero => rfl
  | succ n ih => rw [bestTo, bestTo, ih (fun j hj => h j (by omega)), h n (by omega)]
/-- does the front, the end match? -/
def prefG (l : List Pc) (s : List UInt8) (j : Nat) : Bool := mat l (s.take j)
def suffG (l : List Pc) (s : List UInt8) (t : Nat) : Bool := mat l (s.drop (s.length - t))
/-- the end of a match at the front; the beginning of one at the end -/
def prefS (l : List Pc) (s : List UInt8) (b : Bool) : Nat × Bool := bestTo (prefG l s) b (s.length + 1)
def suffS (l : List Pc) (s : List UInt8) (b : Bool) : Nat × Bool :=
  if (bestTo (suffG l s) b (s.length + 1)).2 then (s.length - (bestTo (suffG l s) b (s.length + 1)).1, true) else (0, false)
theorem suffG_rev (l : List Pc) (s : List UInt8) (t : Nat) : mat l.reverse (s.reverse.take t) = suffG l s t := by
  unfold suffG
  rw [← mat_reverse l (s.drop (s.length - t)), List.take_reverse]
theorem prefS_ok (l : List Pc) (s : List UInt8) (b : Bool) : (prefS l s b).2 = true ↔ ∃ u v, s = u ++ v ∧ Mt l u := by
  unfold prefS
  rw [best_ok]
  constructor
  · rintro ⟨j, -, h⟩
    exact ⟨s.take j, s.drop j, (List.take_append_drop j s).symm, (mat_iff _ _).1 h⟩
  · rintro ⟨u, v, rfl, h⟩
    exact ⟨u.length, by simp; omega, by unfold prefG; rw [List.take_left, mat_iff]; exact h⟩
theorem suffS_ok (l : List Pc) (s : List UInt8) (b : Bool) : (suffS l s b).2 = true ↔ ∃ u v, s = u ++ v ∧ Mt l v := by
  have e : (suffS l s b).2 = (bestTo (suffG l s) b (s.length + 1)).2 := by
    unfold suffS; split <;> simp_all
  rw [e, best_ok]
  constructor
  · rintro ⟨j, -, h⟩
    exact ⟨s.take (s.length - j), s.drop (s.length - j), (List.take_append_drop _ s).symm, (mat_iff _ _).1 h⟩
  · rintro ⟨u, v, rfl, h⟩
    refine ⟨v.length, by simp; omega, ?_⟩
    unfold suffG
    rw [List.length_append, Nat.add_sub_cancel, List.drop_left, mat_iff]; exact h
end Go.Proofs.YtafmhhhboihdfaaDoor
