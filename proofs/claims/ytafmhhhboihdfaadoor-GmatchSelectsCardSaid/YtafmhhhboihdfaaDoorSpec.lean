/-
  What a bracket and a pattern are, as plain words on lists of bytes. No condition.
-/
import Derived.Test.YtafmhhhboihdfaaDoorSet7
import Derived.Lib.IndexMore
namespace Go.Proofs.YtafmhhhboihdfaaDoor
open Go.RowKit
set_option linter.unusedVariables false
/-- the name ahead of the next ":]" -/
def nameS : List UInt8 → Option (List UInt8)
  | [] => none
  | c :: t => if c = 58 ∧ t.head? = some 93 then some [] else (nameS t).map (c :: ·)
theorem index_name (t : List UInt8) : Lib.index t [58, 93] = match nameS t with | some n => (n.length : Int) | none => -1 := by
  induction t with
  | nil => rfl
  | cons c t ih =>
    rw [Lib.index, nameS, ih]
    have hp : ([58, 93] : List UInt8).isPrefixOf (c :: t) = decide (c = 58 ∧ t.head? = some 93) := by
      cases t with
      | nil => simp [List.isPrefixOf]
      | cons d t => rw [Bool.eq_iff_iff]; simp [List.isPrefixOf]; constructor <;> (rintro ⟨a, b⟩; exact ⟨a.symm, b.symm⟩)
    rw [hp]
    by_cases h : c = 58 ∧ t.head? = some 93
    · rw [if_pos h, if_pos (by simpa using h)]; rfl
    · rw [if_neg h, if_neg (by simpa using h)]
      cases hn : nameS t with
      | none => rfl
      | some n => 
        simp only [Option.map_some]
        rw [if_neg (by simp only [beq_iff_eq]; omega)]
        simp
theorem name_len {t n : List UInt8} (h : nameS t = some n) : n.length + 2 ≤ t.length ∧ t.take n.length = n ∧ t[n.length]? = some 58 ∧ t[n.length + 1]? = some 93 := by
  induction t generalizing n with
  | nil => simp [nameS] at h
  | cons c t ih =>
    rw [nameS] at h
    by_cases hc : c = 58 ∧ t.head? = some 93
    · rw [if_pos hc] at h
      injection h with h
      subst h
      cases t with
      | nil => simp at hc
      | cons d t => obtain ⟨rfl, h2⟩ := hc; simp at h2; subst h2; simp
    · rw [if_neg hc] at h
      cases hn : nameS t with
      | none => rw [hn] at h; simp at h
      | some m =>
        rw [hn] at h
        simp only [Option.map_some, Option.some.injEq] at h
        subst h
        obtain ⟨h1, h2, h3, h4⟩ := ih hn
        refine ⟨by simp; omega, by simp [h2], by simpa using h3, by simpa using h4⟩
theorem cut_name (t : List UInt8) : (Lib.cut t [58, 93]).1 = (match nameS t with | some n => n | none => t) ∧ (Lib.cut t [58, 93]).2.2 = (nameS t).isSome := by
  unfold Lib.cut
  rw [index_name]
  cases h : nameS t with
  | none => simp
  | some n => 
    simp only [Int.toNat_natCast]
    rw [if_pos (by omega)]
    exact ⟨(name_len h).2.1, rfl⟩
/-- the sets that the classes are made of -/
def digitS : BitVec 256 := rangeS 48 57
def upperS : BitVec 256 := rangeS 65 90
def lowerS : BitVec 256 := rangeS 97 122
def graphS : BitVec 256 := rangeS 33 126
/-- the bytes of a class -/
def classS (n : List UInt8) : Option (BitVec 256) :=
  if n = [97, 108, 110, 117, 109] then some (unionS [digitS, upperS, lowerS])
  else if n = [97, 108, 112, 104, 97] then some (unionS [0, upperS, lowerS])
  else if n = [100, 105, 103, 105, 116] then some digitS
  else if n = [117, 112, 112, 101, 114] then some upperS
  else if n = [108, 111, 119, 101, 114] then some lowerS
  else if n = [115, 112, 97, 99, 101] then some (unionS [rangeS 9 13, ofS [9, 32]])
  else if n = [98, 108, 97, 110, 107] then some (unionS [0, ofS [9, 32]])
  else if n = [112, 114, 105, 110, 116] then some (unionS [ofS [32], graphS])
  else if n = [103, 114, 97, 112, 104] then some (unionS [0, graphS])
  else if n = [112, 117, 110, 99, 116] then some (~~~ unionS [~~~ graphS, digitS, upperS, lowerS])
  else if n = [99, 110, 116, 114, 108] then some (unionS [rangeS 0 31, ofS [127]])
  else if n = [120, 100, 105, 103, 105, 116] then some (unionS [digitS, rangeS 97 102, rangeS 65 70])
  else none
/-- an item of a bracket: is it a byte, which; its set; how many bytes behind the first one it has -/
structure It where
  one : Bool
  b : UInt8
  s : BitVec 256
  k : Nat
def itemS (c : UInt8) (t : List UInt8) : Option It :=
  if c = 91 ∧ (t.head? = some 46 ∨ t.head? = some 61) then none
  else if c = 91 ∧ t.head? = some 58 then
    match nameS t.tail with
    | none => none
    | some n => match classS n with
      | none => none
      | some S => some ⟨false, 0, S, n.length + 3⟩
  else if c = 92 then
    match t with
    | [] => none
    | d :: _ => some ⟨true, d, bit d.toNat, 1⟩
  else some ⟨true, c, bit c.toNat, 0⟩
/-- what a range behind an item makes of it: the set, how many bytes more -/
def rangedS (x : It) (t : List UInt8) : Option (BitVec 256 × Nat) :=
  if x.one = true ∧ t.head? = some 45 then
    match t with
    | _ :: d :: u =>
      if d = 93 then some (x.s, 0)
      else match itemS d u with
        | none => none
        | some y => if y.one = false then none else if y.b < x.b then none else some (rangeS x.b.toNat y.b.toNat, y.k + 2)
    | _ => some (x.s, 0)
  else some (x.s, 0)
/-- up to the end of a bracket: the set, how many bytes -/
def readS (first : Bool) (S : BitVec 256) : List UInt8 → Option (BitVec 256 × Nat)
  | [] => none
  | c :: t =>
    if first = false ∧ c = 93 then some (S, 1)
    else match itemS c t with
      | none => none
      | some x => match rangedS x (t.drop x.k) with
        | none => none
        | some (T, n) => (readS false (S ||| T) ((t.drop x.k).drop n)).map fun r => (r.1, x.k + 1 + n + r.2)
  termination_by t => t.length
  decreasing_by simp; omega
/-- a bracket: its set, how many bytes -/
def brS (t : List UInt8) : Option (BitVec 256 × Nat) :=
  if t.head? = some 94 ∨ t.head? = some 33 then (readS true 0 t.tail).map fun r => (~~~ r.1, r.2 + 1)
  else readS true 0 t
theorem item_k {c : UInt8} {t : List UInt8} {x : It} (h : itemS c t = some x) : x.k ≤ t.length := by
  unfold itemS at h
  split at h
  · simp at h
  · split at h
    · split at h
      · simp at h
      · rename_i n hn
        split at h
        · simp at h
        · simp only [Option.some.injEq] at h
          subst h
          have := (name_len hn).1
          simp at this ⊢; omega
    · split at h
      · split at h
        · simp at h
        · simp only [Option.some.injEq] at h; subst h; simp
      · simp only [Option.some.injEq] at h; subst h; simp
theorem ranged_k {x : It} {t : List UInt8} {r : BitVec 256 × Nat} (h : rangedS x t = some r) : r.2 ≤ t.length := by
  unfold rangedS at h
  split at h
  · split at h
    · split at h
      · simp only [Option.some.injEq] at h; subst h; simp
      · split at h
        · simp at h
        · rename_i y hy
          have := item_k hy
          split at h
          · simp at h
          · split at h
            · simp at h
            · simp only [Option.some.injEq] at h; subst h; simp; omega
    · simp only [Option.some.injEq] at h; subst h; simp
  · simp only [Option.some.injEq] at h; subst h; simp
theorem read_k : ∀ (n : Nat) (t : List UInt8) (first : Bool) (S : BitVec 256) (r : BitVec 256 × Nat), t.length ≤ n → readS first S t = some r → 1 ≤ r.2 ∧ r.2 ≤ t.length := by
  intro n
  induction n with
  | zero => intro t f S r hn h; rw [List.length_eq_zero_iff.1 (by omega : t.length = 0), readS] at h; simp at h
  | succ n ih =>
    intro t f S r hn h
    cases t with
    | nil => rw [readS] at h; simp at h
    | cons c t =>
      rw [readS] at h
      split at h
      · simp only [Option.some.injEq] at h; subst h; simp
      · split at h
        · simp at h
        · rename_i x hx
          have hk := item_k hx
          split at h
          · simp at h
          · rename_i T m hm
            have hm2 := ranged_k hm
            cases hr : readS false (S ||| T) ((t.drop x.k).drop m) with
            | none => rw [hr] at h; simp at h
            | some q =>
              rw [hr] at h
              simp only [Option.map_some, Option.some.injEq] at h
              subst h
              have := ih _ _ _ _ (by simp at hn ⊢; omega) hr
              simp at this hm2 ⊢
              omega
theorem br_k {t : List UInt8} {r : BitVec 256 × Nat} (h : brS t = some r) : 1 ≤ r.2 ∧ r.2 ≤ t.length := by
  unfold brS at h
  split at h
  · cases hr : readS true 0 t.tail with
    | none => rw [hr] at h; simp at h
    | some q =>
      rw [hr] at h
      simp only [Option.map_some, Option.some.injEq] at h
      subst h
      have := read_k _ _ _ _ _ (Nat.le_refl _) hr
      cases t with
      | nil => simp at this; omega
      | cons c t => simp at this ⊢; omega
  · exact read_k _ _ _ _ _ (Nat.le_refl _) h
def starP : Pc := ⟨3, 0⟩
def anyP : Pc := ⟨2, 0⟩
/-- the pieces of a pattern -/
def parseS : List UInt8 → List Pc
  | [] => []
  | c :: t =>
    if c = 42 then starP :: parseS t
    else if c = 63 then anyP :: parseS t
    else if c = 91 then
      match brS t with
      | some (S, n) => ⟨1, S⟩ :: parseS (t.drop n)
      | none => oneP c :: parseS t
    else if c = 92 then
      match t with
      | [] => [oneP c]
      | d :: u => oneP d :: parseS u
    else oneP c :: parseS t
  termination_by t => t.length
  decreasing_by all_goals (simp; try omega)
theorem parse_cons (c : UInt8) (t : List UInt8) : parseS (c :: t) = (if c = 42 then starP :: parseS t
    else if c = 63 then anyP :: parseS t
    else if c = 91 then
      match brS t with
      | some (S, n) => ⟨1, S⟩ :: parseS (t.drop n)
      | none => oneP c :: parseS t
    else if c = 92 then
      match t with
      | [] => [oneP c]
      | d :: u => oneP d :: parseS u
    else oneP c :: parseS t) := by
  rw [parseS.eq_def]
theorem parse_len : ∀ (n : Nat) (t : List UInt8), t.length ≤ n → (parseS t).length ≤ t.length := by
  intro n
  induction n with
  | zero => intro t hn; rw [List.length_eq_zero_iff.1 (by omega : t.length = 0), parseS]; simp
  | succ n ih =>
    intro t hn
    cases t with
    | nil => rw [parseS]; simp
    | cons c t =>
      simp only [List.length_cons] at hn
      rw [parse_cons]
      split
      · have := ih t (by omega); simp; omega
      · split
        · have := ih t (by omega); simp; omega
        · split
          · split
            · rename_i S m hm
              have := br_k hm
              have := ih (t.drop m) (by simp; omega)
              simp at this ⊢; omega
            · have := ih t (by omega); simp; omega
          · split
            · split
              · simp
              · rename_i d u
                have := ih u (by simp at hn; omega)
                simp at this ⊢; omega
            · have := ih t (by omega); simp; omega
end Go.Proofs.YtafmhhhboihdfaaDoor
