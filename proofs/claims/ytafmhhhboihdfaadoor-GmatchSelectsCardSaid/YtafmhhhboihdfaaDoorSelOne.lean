/-
  Joined texts: Texts put one by one among rising ones are the texts sorted, each once. No condition.
  What Select calls of Go's library, by the shelf's contracts: HasPrefix, Sort, Compact; and Clip. Conditions: those that each theorem names. The layings are printed by mklay.py, plainlay.py.
  The law GmatchNil: its walk. Conditions: those that each theorem names.
  A slice of strings that came in is opened as a list of strings. Conditions: those that each theorem names.
  Strings appended to a slice of the call's own. Conditions: those that each theorem names.
  Quote; the conversions between strings and bytes. Conditions: those that each theorem names.
  The document's answer: Strings, Put. Conditions: those that each theorem names.
-/
import Derived.Lib.SlicesCompact
import Derived.Test.YtafmhhhboihdfaaDoorApp
import Derived.Shelf.Strings.Prefix
import Derived.Shelf.Sort.Plain
import Derived.Shelf.Slices.In.SortNone
import Derived.Shelf.Slices.CompactS
import Derived.Test.YtafmhhhboihdfaaDoorSuffix
import Derived.Test.YtafmhhhboihdfaaDoorOpen
import Derived.SliceStrings
import Derived.Laws.AppendOwn
import Derived.Deep.AppendLies
import Derived.Test.YtafmhhhboihdfaaDoorLaw2
import Derived.Laws.IdiomStrings
import Derived.BigQuiet
namespace Go.Proofs.YtafmhhhboihdfaaDoor
set_option linter.unusedVariables false
/-- a text among rising ones, once -/
def putS (s : List UInt8) : List (List UInt8) → List (List UInt8)
  | [] => [s]
  | x :: l => if x < s then x :: putS s l else if x = s then x :: l else s :: x :: l
def Rising (l : List (List UInt8)) : Prop := l.Pairwise (· < ·)
theorem put_mem (s y : List UInt8) (l : List (List UInt8)) : y ∈ putS s l ↔ y = s ∨ y ∈ l := by
  induction l with
  | nil => simp [putS]
  | cons x l ih =>
    rw [putS]
    split
    · rw [List.mem_cons, ih, List.mem_cons]
      exact ⟨fun h => by rcases h with h | h | h <;> simp [h], fun h => by rcases h with h | h | h <;> simp [h]⟩
    · split
      · rename_i h1 h2
        subst h2
        rw [List.mem_cons]
        exact ⟨fun h => .inr h, fun h => by rcases h with h | h <;> simp_all⟩
      · simp
theorem lt_of_not (x s : List UInt8) (h1 : ¬ x < s) (h2 : ¬ x = s) : s < x := by
  rcases List.le_total s x with h | h
  · rcases Decidable.em (s < x) with h3 | h3
    · exact h3
    · exact absurd (List.le_antisymm (List.not_lt.1 h3) h) h2
  · exact absurd (List.le_antisymm h (List.not_lt.1 h1)) h2
theorem put_rising (s : List UInt8) (l : List (List UInt8)) (h : Rising l) : Rising (putS s l) := by
  induction l with
  | nil => simp [putS, Rising]
  | cons x l ih =>
    obtain ⟨h1, h2⟩ := List.pairwise_cons.1 h
    rw [putS]
    split
    · rename_i hx
      refine List.pairwise_cons.2 ⟨fun y hy => ?_, ih h2⟩
      rcases (put_mem s y l).1 hy with rfl | hy
      · exact hx
      · exact h1 y hy
    · split
      · exact h
      · rename_i hx hne
        have hs := lt_of_not x s hx hne
        refine List.pairwise_cons.2 ⟨fun y hy => ?_, h⟩
        rcases List.mem_cons.1 hy with rfl | hy
        · exact hs
        · exact List.lt_trans hs (h1 y hy)
theorem rising_ext : ∀ (l m : List (List UInt8)), Rising l → Rising m → (∀ y, y ∈ l ↔ y ∈ m) → l = m := by
  intro l
  induction l with
  | nil =>
    intro m _ _ h
    cases m with
    | nil => rfl
    | cons y m => have := (h y).2 (by simp); simp at this
  | cons x l ih =>
    intro m hl hm h
    cases m with
    | nil => have := (h x).1 (by simp); simp at this
    | cons y m =>
      obtain ⟨h1, h2⟩ := List.pairwise_cons.1 hl
      obtain ⟨h3, h4⟩ := List.pairwise_cons.1 hm
      have e : x = y := by
        rcases List.mem_cons.1 ((h x).1 (by simp)) with e | e
        · exact e
        · rcases List.mem_cons.1 ((h y).2 (by simp)) with e' | e'
          · exact e'.symm
          · exact absurd (List.lt_trans (h3 x e) (h1 y e')) (List.lt_irrefl y)
      subst e
      congr 1
      refine ih m h2 h4 fun z => ⟨fun hz => ?_, fun hz => ?_⟩
      · rcases List.mem_cons.1 ((h z).1 (by simp [hz])) with e | e
        · subst e; exact absurd (h1 z hz) (List.lt_irrefl z)
        · exact e
      · rcases List.mem_cons.1 ((h z).2 (by simp [hz])) with e | e
        · subst e; exact absurd (h3 z hz) (List.lt_irrefl z)
        · exact e
theorem compact_snoc (zs : List (List UInt8)) (x : List UInt8) : Lib.compact (zs ++ [x]) = if zs.getLast? = some x then Lib.compact zs else Lib.compact zs ++ [x] := by
  unfold Lib.compact
  rw [List.length_append, List.length_singleton, Lib.compactUpTo_succ]
  have e1 : Lib.compactUpTo (zs ++ [x]).toArray zs.length = Lib.compactUpTo zs.toArray zs.length := by
    unfold Lib.compactUpTo
    have hk : ∀ j, j < zs.length → (zs ++ [x]).toArray[j]! = zs.toArray[j]! := fun j hj => by
      rw [getElem!_pos _ _ (by simp; omega), getElem!_pos _ _ (by simpa using hj)]
      simp [List.getElem_append_left hj]
    rw [List.filter_congr (q := Lib.keeps zs.toArray) (fun j hj => by
      have hj := List.mem_range.1 hj
      unfold Lib.keeps
      rw [hk j hj, hk (j - 1) (by omega)])]
    refine List.map_congr_left fun j hj => ?_
    exact hk j (List.mem_range.1 (List.mem_filter.1 hj).1)
  have e2 : (zs ++ [x]).toArray[zs.length]! = x := by
    rw [getElem!_pos _ _ (by simp)]; simp
  rw [e1, e2]
  have e3 : Lib.keeps (zs ++ [x]).toArray zs.length = !decide (zs.getLast? = some x) := by
    unfold Lib.keeps
    rw [e2]
    rcases Nat.eq_zero_or_pos zs.length with h0 | h0
    · have := List.length_eq_zero_iff.1 h0
      subst this; simp
    · have hne : ¬ zs.length = 0 := by omega
      have e4 : (zs ++ [x]).toArray[zs.length - 1]! = zs[zs.length - 1] := by
        rw [getElem!_pos _ _ (by simp; omega)]
        simp only [List.getElem_toArray]
        rw [List.getElem_append_left (by omega)]
      rw [e4, List.getLast?_eq_getElem?, List.getElem?_eq_getElem (by omega : zs.length - 1 < zs.length)]
      simp only [hne, false_or, Option.some.injEq]
      by_cases hx : zs[zs.length - 1] = x
      · simp [hx]
      · have hx' : ¬ x = zs[zs.length - 1] := fun e => hx e.symm
        simp [hx, hx']
  rw [e3]
  by_cases hx : zs.getLast? = some x <;> simp [hx]
theorem compact_sorted (zs : List (List UInt8)) : (zs.Pairwise fun x y => x ≤ y) → Rising (Lib.compact zs) ∧ ∀ y, y ∈ Lib.compact zs ↔ y ∈ zs := by
  suffices h : ∀ (n : Nat) (zs : List (List UInt8)), zs.length = n → (zs.Pairwise fun x y => x ≤ y) → Rising (Lib.compact zs) ∧ ∀ y, y ∈ Lib.compact zs ↔ y ∈ zs from h _ zs rfl
  intro n
  induction n with
  | zero =>
    intro zs hz _
    have := List.length_eq_zero_iff.1 hz
    subst this
    have e : Lib.compact ([] : List (List UInt8)) = [] := rfl
    rw [e]; exact ⟨List.Pairwise.nil, fun y => Iff.rfl⟩
  | succ n ih =>
    intro zs hz hp
    rcases List.eq_nil_or_concat zs with rfl | ⟨l, x, rfl⟩
    · simp at hz
    rw [List.concat_eq_append] at hz hp ⊢
    obtain ⟨h1, -, h2⟩ := List.pairwise_append.1 hp
    obtain ⟨h3, h4⟩ := ih l (by simpa using hz) h1
    rw [compact_snoc]
    split
    · rename_i hx
      refine ⟨h3, fun y => (h4 y).trans ⟨fun h => by simp [h], fun h => ?_⟩⟩
      rcases List.mem_append.1 h with h | h
      · exact h
      · rw [List.mem_singleton.1 h]; exact List.mem_of_getLast? hx
    · rename_i hx
      refine ⟨List.pairwise_append.2 ⟨h3, by simp, fun y hy z hz => ?_⟩, fun y => ?_⟩
      · rw [List.mem_singleton.1 hz]
        have hyl := (h4 y).1 hy
        have hle := h2 y hyl x (by simp)
        refine Decidable.byContradiction fun hn => hx ?_
        have e : y = x := List.le_antisymm hle (List.not_lt.1 hn)
        subst e
        -- y is in l; all of l is at most y; so the last is y
        cases hl : l.getLast? with
        | none => rw [List.getLast?_eq_none_iff] at hl; subst hl; simp at hyl
        | some z =>
          have hzl := List.mem_of_getLast? hl
          have hz1 := h2 z hzl y (by simp)
          have hz2 : y ≤ z := by
            obtain ⟨l', rfl⟩ := List.getLast?_eq_some_iff.1 hl
            rcases List.mem_append.1 hyl with h | h
            · exact (List.pairwise_append.1 h1).2.2 y h z (by simp)
            · rw [List.mem_singleton.1 h]; exact List.le_refl _
          rw [List.le_antisymm hz1 hz2]
      · rw [List.mem_append, List.mem_append, h4]
/-- texts put one by one -/
def putsS (l : List (List UInt8)) : List (List UInt8) := l.foldl (fun o s => putS s o) []
theorem puts_snoc (l : List (List UInt8)) (x : List UInt8) : putsS (l ++ [x]) = putS x (putsS l) := by simp [putsS]
theorem puts_mem (l : List (List UInt8)) : Rising (putsS l) ∧ ∀ y, y ∈ putsS l ↔ y ∈ l := by
  suffices h : ∀ (n : Nat) (l : List (List UInt8)), l.length = n → Rising (putsS l) ∧ ∀ y, y ∈ putsS l ↔ y ∈ l from h _ l rfl
  intro n
  induction n with
  | zero =>
    intro l hl
    have := List.length_eq_zero_iff.1 hl
    subst this
    exact ⟨List.Pairwise.nil, fun y => Iff.rfl⟩
  | succ n ih =>
    intro l hl
    rcases List.eq_nil_or_concat l with rfl | ⟨m, x, rfl⟩
    · simp at hl
    rw [List.concat_eq_append] at hl ⊢
    obtain ⟨h1, h2⟩ := ih m (by simpa using hl)
    rw [puts_snoc]
    refine ⟨put_rising _ _ h1, fun y => ?_⟩
    rw [put_mem, h2, List.mem_append, List.mem_singleton]
    exact Or.comm
/-- sorted, each once -/
theorem sorted_puts (l : List (List UInt8)) : Lib.compact (l.mergeSort fun x y => decide (x ≤ y)) = putsS l := by
  have hs : (l.mergeSort fun x y => decide (x ≤ y)).Pairwise fun x y => x ≤ y := by
    have := List.pairwise_mergeSort (le := fun x y : List UInt8 => decide (x ≤ y)) (fun a b c h1 h2 => by simp only [decide_eq_true_eq] at *; exact List.le_trans h1 h2) (fun a b => by simp only [Bool.or_eq_true, decide_eq_true_eq]; exact List.le_total a b) l
    simpa using this
  obtain ⟨h1, h2⟩ := compact_sorted _ hs
  obtain ⟨h3, h4⟩ := puts_mem l
  exact rising_ext _ _ h1 h3 fun y => by rw [h2, h4, List.mem_mergeSort]
end Go.Proofs.YtafmhhhboihdfaaDoor
namespace Go.Proofs.YtafmhhhboihdfaaDoor
open Go.RowKit Go.Shelf Go.Sort
set_option linter.unusedVariables false
def Tryd.laysHas_ren : Go.Shelf.Ren := ⟨fun | 99 => 41 | 206 => 59 | n => n, fun | 9 => 9 | 4 => 4 | 3 => 3 | n => n, fun | n => n⟩
theorem Tryd.laysHas : Go.Proofs.Lays.n99 Tryd.prog Tryd.laysHas_ren := {
  mixed := by kernel_rfl,
  f99 := Tryd.func41.trans (congrArg some (by kernel_rfl)),
  f206 := Tryd.func59.trans (congrArg some (by kernel_rfl)),
  t3 := Tryd.underlying3,
  a3 := Tryd.isAgg3,
  z3 := Tryd.sizeOf3,
  v3 := Tryd.zeroValue3,
  t4 := Tryd.underlying4,
  a4 := Tryd.isAgg4,
  z4 := Tryd.sizeOf4,
  v4 := Tryd.zeroValue4,
  t9 := Tryd.underlying9,
  a9 := Tryd.isAgg9,
  z9 := Tryd.sizeOf9,
  v9 := Tryd.zeroValue9
}
def Tryd.laysSort_ren : Go.Shelf.Ren := ⟨fun | 190 => 42 | 125 => 61 | 258 => 60 | 128 => 75 | 129 => 76 | 302 => 66 | 303 => 67 | 304 => 68 | 305 => 69 | 306 => 70 | 307 => 71 | 308 => 72 | 309 => 73 | 310 => 74 | 333 => 82 | 329 => 83 | 330 => 84 | 334 => 85 | 335 => 86 | 336 => 87 | 344 => 91 | n => n, fun | 31 => 45 | 9 => 9 | 3 => 3 | 46 => 95 | 0 => 0 | 51 => 118 | 53 => 66 | 4 => 4 | 183 => 112 | 182 => 111 | 131 => 35 | 5 => 5 | 218 => 127 | 222 => 131 | 228 => 137 | 229 => 138 | n => n, fun | n => n⟩
theorem Tryd.laysSort : Go.Proofs.Lays.n190 Tryd.prog Tryd.laysSort_ren := {
  mixed := by kernel_rfl,
  f125 := Tryd.func61.trans (congrArg some (by kernel_rfl)),
  f128 := Tryd.func75.trans (congrArg some (by kernel_rfl)),
  f129 := Tryd.func76.trans (congrArg some (by kernel_rfl)),
  f190 := Tryd.func42.trans (congrArg some (by kernel_rfl)),
  f258 := Tryd.func60.trans (congrArg some (by kernel_rfl)),
  f302 := Tryd.func66.trans (congrArg some (by kernel_rfl)),
  f303 := Tryd.func67.trans (congrArg some (by kernel_rfl)),
  f304 := Tryd.func68.trans (congrArg some (by kernel_rfl)),
  f305 := Tryd.func69.trans (congrArg some (by kernel_rfl)),
  f306 := Tryd.func70.trans (congrArg some (by kernel_rfl)),
  f307 := Tryd.func71.trans (congrArg some (by kernel_rfl)),
  f308 := Tryd.func72.trans (congrArg some (by kernel_rfl)),
  f309 := Tryd.func73.trans (congrArg some (by kernel_rfl)),
  f310 := Tryd.func74.trans (congrArg some (by kernel_rfl)),
  f329 := Tryd.func83.trans (congrArg some (by kernel_rfl)),
  f330 := Tryd.func84.trans (congrArg some (by kernel_rfl)),
  f333 := Tryd.func82.trans (congrArg some (by kernel_rfl)),
  f334 := Tryd.func85.trans (congrArg some (by kernel_rfl)),
  f335 := Tryd.func86.trans (congrArg some (by kernel_rfl)),
  f336 := Tryd.func87.trans (congrArg some (by kernel_rfl)),
  f344 := Tryd.func91.trans (congrArg some (by kernel_rfl)),
  t0 := Tryd.underlying0,
  a0 := Tryd.isAgg0,
  z0 := Tryd.sizeOf0,
  v0 := Tryd.zeroValue0,
  t3 := Tryd.underlying3,
  a3 := Tryd.isAgg3,
  z3 := Tryd.sizeOf3,
  v3 := Tryd.zeroValue3,
  t4 := Tryd.underlying4,
  a4 := Tryd.isAgg4,
  z4 := Tryd.sizeOf4,
  v4 := Tryd.zeroValue4,
  t5 := Tryd.underlying5,
  a5 := Tryd.isAgg5,
  z5 := Tryd.sizeOf5,
  v5 := Tryd.zeroValue5,
  t9 := Tryd.underlying9,
  a9 := Tryd.isAgg9,
  z9 := Tryd.sizeOf9,
  v9 := Tryd.zeroValue9,
  t31 := Tryd.underlying45,
  a31 := Tryd.isAgg45,
  z31 := Tryd.sizeOf45,
  v31 := Tryd.zeroValue45,
  t46 := Tryd.underlying95,
  a46 := Tryd.isAgg95,
  z46 := Tryd.sizeOf95,
  v46 := Tryd.zeroValue95,
  t51 := Tryd.underlying118,
  a51 := Tryd.isAgg118,
  z51 := Tryd.sizeOf118,
  v51 := Tryd.zeroValue118,
  t53 := Tryd.underlying66,
  a53 := Tryd.isAgg66,
  z53 := Tryd.sizeOf66,
  v53 := Tryd.zeroValue66,
  t131 := Tryd.underlying35,
  a131 := Tryd.isAgg35,
  z131 := Tryd.sizeOf35,
  v131 := Tryd.zeroValue35,
  t182 := Tryd.underlying111,
  a182 := Tryd.isAgg111,
  z182 := Tryd.sizeOf111,
  v182 := Tryd.zeroValue111,
  t183 := Tryd.underlying112,
  a183 := Tryd.isAgg112,
  z183 := Tryd.sizeOf112,
  v183 := Tryd.zeroValue112,
  t218 := Tryd.underlying127,
  a218 := Tryd.isAgg127,
  z218 := Tryd.sizeOf127,
  v218 := Tryd.zeroValue127,
  t222 := Tryd.underlying131,
  a222 := Tryd.isAgg131,
  z222 := Tryd.sizeOf131,
  v222 := Tryd.zeroValue131,
  t228 := Tryd.underlying137,
  a228 := Tryd.isAgg137,
  z228 := Tryd.sizeOf137,
  v228 := Tryd.zeroValue137,
  t229 := Tryd.underlying138,
  a229 := Tryd.isAgg138,
  z229 := Tryd.sizeOf138,
  v229 := Tryd.zeroValue138
}
def Tryd.laysCompact_ren : Go.Shelf.Ren := ⟨fun | 194 => 44 | n => n, fun | 31 => 45 | 9 => 9 | 3 => 3 | 4 => 4 | 0 => 0 | n => n, fun | n => n⟩
theorem Tryd.laysCompact : Go.Proofs.Lays.n194 Tryd.prog Tryd.laysCompact_ren := {
  mixed := by kernel_rfl,
  f194 := Tryd.func44.trans (congrArg some (by kernel_rfl)),
  t0 := Tryd.underlying0,
  a0 := Tryd.isAgg0,
  z0 := Tryd.sizeOf0,
  v0 := Tryd.zeroValue0,
  t3 := Tryd.underlying3,
  a3 := Tryd.isAgg3,
  z3 := Tryd.sizeOf3,
  v3 := Tryd.zeroValue3,
  t4 := Tryd.underlying4,
  a4 := Tryd.isAgg4,
  z4 := Tryd.sizeOf4,
  v4 := Tryd.zeroValue4,
  t9 := Tryd.underlying9,
  a9 := Tryd.isAgg9,
  z9 := Tryd.sizeOf9,
  v9 := Tryd.zeroValue9,
  t31 := Tryd.underlying45,
  a31 := Tryd.isAgg45,
  z31 := Tryd.sizeOf45,
  v31 := Tryd.zeroValue45
}
theorem hasprefix_any (s p : ByteArray) (w : World) : Calls Tryd.prog 41 #[.string s, .string p] w fun e w' => e = .returned (.bool (Lib.hasPrefix (bl s) (bl p))) ∧ w = w' :=
  (Any.strings_HasPrefix Tryd.laysHas s p w).mono fun e w' ⟨h1, h2⟩ => ⟨h1, h2.symm⟩
theorem sort_none (a : Option Addr) (cap : Nat) (w : World) : Calls Tryd.prog 42 #[.slice a 0 cap] w fun e w' => e = .returned (.tuple #[]) ∧ w = w' :=
  (Any.slices_Sort_string_none Tryd.laysSort a cap w).mono fun e w' ⟨h1, h2⟩ => ⟨h1, h2.symm⟩
theorem compact_none (a : Option Addr) (cap : Nat) (w : World) : Calls Tryd.prog 44 #[.slice a 0 cap] w fun e w' => e = .returned (.slice a 0 cap) ∧ w = w' :=
  (Any.slices_Compact_string_empty Tryd.laysCompact a cap w).mono fun e w' ⟨h1, h2⟩ => ⟨h1, h2.symm⟩
set_option maxRecDepth 100000 in
theorem clip_any (a : Option Addr) (n cap : Nat) (w : World) (hn : n ≤ cap) (hc : cap ≤ 9223372036854775807) : Calls Tryd.prog 43 #[.slice a n cap] w fun e w' => e = .returned (.slice a n n) ∧ w = w' := by
  have h1 : (n : Int) ≤ (cap : Int) := by omega
  go_enter Tryd.func43, Tryd.ntmps43
  go_wp2_with fail
  go_ret
  exact ⟨rfl, rfl⟩
end Go.Proofs.YtafmhhhboihdfaaDoor
namespace Go.Proofs.YtafmhhhboihdfaaDoor
open Go.RowKit
set_option linter.unusedVariables false
/-- strings in a row -/
def HasN (w : World) (a : Option Addr) (l : List ByteArray) : Prop :=
  l = [] ∨ ∃ b off, a = some ⟨b, off, none⟩ ∧ b < w.heap.size ∧ ∀ i (h : i < l.length), w.cell? ⟨b, off + i, none⟩ = some (.string l[i])
theorem HasN.below {w w' : World} {a : Option Addr} {l : List ByteArray} (h : HasN w a l) (hb : Below w.heap.size w w') : HasN w' a l := by
  rcases h with h | ⟨b, off, ha, hlt, hc⟩
  · exact .inl h
  · exact .inr ⟨b, off, ha, Nat.lt_of_lt_of_le hlt hb.size, fun i hi => (hb.cell (p := ⟨b, off + i, none⟩) hlt).trans (hc i hi)⟩
set_option maxRecDepth 100000 in
set_option maxHeartbeats 1600000 in
theorem select_nil (w : World) (a : Option Addr) (n cap : Nat) (l : List ByteArray) (hn : l.length = n) (hl : HasN w a l) (hlc : n ≤ cap) (hc : cap ≤ 9223372036854775807) :
    Calls Tryd.prog 25 #[.pointer none, .slice a n cap] w fun e w' => e = .returned (.slice none 0 0) ∧ Below w.heap.size w w' := by
  have HN := Lib.hid hn
  have HL := Lib.hid hl
  have hcv := fun (w : World) (s : ByteArray) => run_bytes_of_string (P := Tryd.prog) w 9 22 5 s Tryd.underlying9 Tryd.underlying22 Tryd.underlying5
  have HCV := Lib.hid hcv
  clear hn hl hcv
  go_enter Tryd.func25, Tryd.ntmps25
  go_wp2_with fail
  refine (pieces_nil w).mono ?_; rintro e w' ⟨rfl, rfl⟩
  go_wp2_with fail
  go_quiet (fail)
  go_wp2_with fail
  have HB0 := Lib.hid (show Below w.heap.size w (w.drewN nq) from below_of_grown (drewN_grown w nq none) (Nat.le_refl _) (fun k e => by cases e))
  go_loopw [7, 32] (fun o i wr => ∃ j : Nat, o = .slice none 0 0 ∧ i = .int .i64 j ∧ j ≤ n ∧ Below w.heap.size w wr) (fun _ i _ => n - (intOf i).toNat)
  case atStart => exact ⟨0, rfl, rfl, by omega, HB0.out⟩
  case round =>
    obtain ⟨j, rfl, rfl, hj, hbel⟩ := hrel
    have HB := Lib.hid hbel
    clear hbel
    by_cases hlt : j < n
    · have hji : (j : Int) < (n : Int) := by omega
      rcases HL.out.below HB.out with h0 | ⟨b, off, rfl, hb2, hx⟩
      · have := HN.out; rw [h0] at this; simp at this; omega
      have c0 := hx j (by rw [HN.out]; exact hlt)
      generalize l[j]'(by rw [HN.out]; exact hlt) = s at *
      clear hx
      have HH := Lib.hid (hasprefix_any s ⟨#[46]⟩ wr)
      generalize Lib.hasPrefix (bl s) (bl ⟨#[46]⟩) = hp at *
      cases hp
      · have hcv1 := HCV.out wr s
        have HBV := Lib.hid (show Below wr.heap.size wr (wr.alloc (.cells (bytesRow s (grownCap wr s.size 0 5)) 5 ((bytesRow s (grownCap wr s.size 0 5)).size, (bytesRow s (grownCap wr s.size 0 5)).size + 1))).drew from ((Below.refl _ _).alloc (Nat.le_refl _) _).drew)
        go_wp2_with fail
        refine HH.out.mono ?_; rintro e w' ⟨rfl, rfl⟩
        go_wp2_with fail
        generalize (wr.alloc (.cells (bytesRow s (grownCap wr s.size 0 5)) 5 ((bytesRow s (grownCap wr s.size 0 5)).size, (bytesRow s (grownCap wr s.size 0 5)).size + 1))).drew = W at *
        refine (match_nil W _ _ _).mono ?_; rintro e w' ⟨rfl, rfl⟩
        have HBN := Lib.hid (HB.out.trans (HBV.out.mono HB.out.size))
        go_wp2_with fail
        go_roundw
        case rel => exact ⟨j + 1, rfl, by go_num, by omega, HBN.out⟩
        case measure => simp [intOf]; omega
      · go_wp2_with fail
        refine HH.out.mono ?_; rintro e w' ⟨rfl, rfl⟩
        go_wp2_with fail
        go_roundw
        case rel => exact ⟨j + 1, rfl, by go_num, by omega, HB.out⟩
        case measure => simp [intOf]; omega
    · obtain rfl : j = n := by omega
      go_wp2_with fail
      refine (sort_none none 0 wr).mono ?_; rintro e w' ⟨rfl, rfl⟩
      go_wp2_with fail
      refine (compact_none none 0 wr).mono ?_; rintro e w' ⟨rfl, rfl⟩
      go_wp2_with fail
      refine (clip_any none 0 0 wr (by omega) (by omega)).mono ?_; rintro e w' ⟨rfl, rfl⟩
      go_wp2_with fail
      go_ret
      exact ⟨rfl, HB.out⟩
set_option maxRecDepth 100000 in
set_option maxHeartbeats 1600000 in
theorem GmatchNil_walk (w : World) (aS : Option Addr) (m capS : Nat) (s : List UInt8) (aN : Option Addr) (n capN : Nat) (l : List ByteArray) (longest : Bool) (hg : Glob w) (hs : HasB w aS s) (hm : s.length = m) (hc : m ≤ capS) (hr : capS ≤ 140737488351232)
    (hl : HasN w aN l) (hn : l.length = n) (hlc : n ≤ capN) (hcN : capN ≤ 9223372036854775807) :
    Calls Tryd.prog 10 #[.slice aS m capS, .slice aN n capN, .bool longest] w fun e w' => e = .returned (.bool true) ∧ Below w.heap.size w w' := by
  have HG := Lib.hid hg
  have HL := Lib.hid hl
  have HN := Lib.hid hn
  clear hg hl hn hs hm
  go_enter Tryd.func10, Tryd.ntmps10
  go_wp2_with fail
  refine (prefix_nil w aS m capS longest).mono ?_; rintro e w1 ⟨rfl, hb1⟩
  have HB1 := Lib.hid hb1
  clear hb1
  go_wp2_with fail
  refine (suffix_nil w1 aS m capS longest).mono ?_; rintro e w2 ⟨rfl, hb2⟩
  have HB2 := Lib.hid (HB1.out.trans (hb2.mono HB1.out.size))
  clear hb2
  go_wp2_with fail
  refine (match_nil w2 aS m capS).mono ?_; rintro e w' ⟨rfl, rfl⟩
  go_wp2_with fail
  refine (steps_nil w2 aS m capS).mono ?_; rintro e w' ⟨rfl, rfl⟩
  go_wp2_with fail
  refine (select_nil w2 aN n capN l HN.out (HL.out.below HB2.out) hlc hcN).mono ?_; rintro e w3 ⟨rfl, hb3⟩
  have HB3 := Lib.hid (HB2.out.trans (hb3.mono HB2.out.size))
  have HA := Lib.hid (awake_any w3 (HG.out.below' HB3.out))
  clear hb3
  go_wp2_with fail
  refine HA.out.mono ?_; rintro e w4 ⟨rfl, hb4⟩
  have HB4 := Lib.hid (HB3.out.trans (hb4.mono HB3.out.size))
  clear hb4
  go_wp2_with fail
  go_ret
  exact ⟨rfl, HB4.out⟩
end Go.Proofs.YtafmhhhboihdfaaDoor
namespace Go.Proofs.YtafmhhhboihdfaaDoor
open Go.ChangeShapes Go.WideShapes Go.ChangeAt Go.RowKit
set_option linter.unusedVariables false
section
variable {H : Type} {enc : TypeId × Value → H}
theorem open_names {W : World} {a : Option Addr} {len cap : Nat} {d : DataW H} {p : List MemPlace} (h : DataW.Trod enc Tryd.prog W 0 (fun _ => true) true 45 (.slice a len cap) d p) :
    ∃ l : List ByteArray, l.length = len ∧ HasN W a l ∧ len ≤ cap ∧ cap ≤ 9223372036854775807 := by
  obtain ⟨fuel, hf⟩ := h
  rcases open_strings Tryd.underlying45 Tryd.underlying9 (by kernel_rfl) hf with ⟨hcs, _⟩ | ⟨x, l, c, ss, hcs, _, hl, hm, hz, _, hcell, _⟩
  · simp [Value.cells] at hcs
    obtain ⟨rfl, rfl, rfl⟩ := hcs
    exact ⟨[], rfl, .inl rfl, Nat.le_refl _, by omega⟩
  · simp [Value.cells] at hcs
    obtain ⟨rfl, rfl, rfl⟩ := hcs
    simp only [if_true] at hz
    refine ⟨ss.take len, by simp; omega, ?_, hl, by simpa [maxLen] using hm⟩
    rcases Nat.eq_zero_or_pos len with h0 | h0
    · exact .inl (by simp [h0])
    · right
      obtain ⟨b, off, spot⟩ := x
      have hc0 := hcell 0 (by omega)
      have hspot : spot = none := by simpa [Addr.add] using World.cell?_spot hc0
      subst hspot
      refine ⟨b, off, rfl, World.block_lt_of_cell? W _ hc0, fun i hi => ?_⟩
      simp only [List.length_take] at hi
      have hc := hcell i (by omega)
      have hadd : (⟨b, off, none⟩ : Addr).add i = ⟨b, off + i, none⟩ := by unfold Addr.add; split <;> simp_all
      rw [hadd] at hc
      rw [hc]
      simp [List.getD_eq_getElem?_getD, List.getElem?_eq_getElem (show i < ss.length by omega)]
end
end Go.Proofs.YtafmhhhboihdfaaDoor
namespace Go.Proofs.YtafmhhhboihdfaaDoor
open Go.RowKit
set_option linter.unusedVariables false
/-- strings in a row -/
def HasS (w : World) (a : Option Addr) (l : List (List UInt8)) : Prop :=
  l = [] ∨ ∃ b off, a = some ⟨b, off, none⟩ ∧ b < w.heap.size ∧ ∀ i (h : i < l.length), w.cell? ⟨b, off + i, none⟩ = some (encStr l[i])
theorem HasS.below {w w' : World} {a : Option Addr} {l : List (List UInt8)} (h : HasS w a l) (hb : Below w.heap.size w w') : HasS w' a l := by
  rcases h with h | ⟨b, off, ha, hlt, hc⟩
  · exact .inl h
  · exact .inr ⟨b, off, ha, Nat.lt_of_lt_of_le hlt hb.size, fun i hi => (hb.cell (p := ⟨b, off + i, none⟩) hlt).trans (hc i hi)⟩
theorem enc_bl (s : ByteArray) : encStr (bl s) = .string s := by simp [encStr, bl]
theorem HasN.toS {w : World} {a : Option Addr} {l : List ByteArray} (h : HasN w a l) : HasS w a (l.map bl) := by
  rcases h with h | ⟨b, off, ha, hlt, hc⟩
  · exact .inl (by rw [h]; rfl)
  · refine .inr ⟨b, off, ha, hlt, fun i hi => ?_⟩
    rw [hc i (by simpa using hi), List.getElem_map, enc_bl]
theorem HasS.pre {w : World} {a : Option Addr} {l : List (List UInt8)} (h : HasS w a l) (k : Nat) : HasS w a (l.take k) := by
  rcases h with h | ⟨b, off, ha, hlt, hc⟩
  · exact .inl (by rw [h]; simp)
  · exact .inr ⟨b, off, ha, hlt, fun i hi => by rw [List.getElem_take]; exact hc i (by simp at hi; omega)⟩
theorem info9 : (Tryd.prog.info? 9).map (fun i => (i.zero, i.size, i.bytes)) = some (some (.string ⟨#[]⟩), 1, 16) := by kernel_rfl
def scells (l : List (List UInt8)) : List Value := l.map encStr
theorem scells_app (l m : List (List UInt8)) : scells (l ++ m) = scells l ++ scells m := by simp [scells]
theorem scells_len (l : List (List UInt8)) : (scells l).length = l.length := by simp [scells]
theorem scells_at (l : List (List UInt8)) (i : Nat) (hi : i < l.length) : (scells l)[i]? = some (encStr l[i]) := by simp [scells, hi]
theorem scells_one (l : List (List UInt8)) : ∀ u ∈ scells l, u.oneCell' = true := fun u hu => by
  simp only [scells, List.mem_map] at hu
  obtain ⟨c, -, rfl⟩ := hu; rfl
theorem scells_cell {w : World} {b off : Nat} {l : List (List UInt8)} (hc : ∀ i (h : i < l.length), w.cell? ⟨b, off + i, none⟩ = some (encStr l[i])) :
    ∀ j u, (scells l)[j]? = some u → w.cell? ((⟨b, off, none⟩ : Addr).add j) = some u := fun j u hj => by
  have hjl : j < l.length := by have := (List.getElem?_eq_some_iff.1 hj).1; rwa [scells_len] at this
  rw [add_off, hc j hjl, ← scells_at l j hjl]; exact hj
/-- bytes at the end of which may be appended: a slice without room, or a row of the call's own -/
def SApp (w : World) (B : Nat) (v : Value) (n : Nat) (l : List (List UInt8)) : Prop :=
  (∃ a, v = .slice a n n ∧ HasS w a l) ∨ w.ownsRow B 9 1 v n (scells l)
theorem SApp.out {w : World} {B : Nat} {v : Value} {n : Nat} {l : List (List UInt8)} (h : SApp w B v n l) (hl : l.length = n) (hn : n ≤ maxLen) : ∃ a cap, v = .slice a n cap ∧ HasS w a l ∧ n ≤ cap ∧ cap ≤ maxLen := by
  rcases h with ⟨a, rfl, h⟩ | ⟨h1, h2⟩
  · exact ⟨a, n, rfl, h, Nat.le_refl _, hn⟩
  · rcases h2 with ⟨rfl, rfl⟩ | ⟨g, cap, cur, rfl, h3, h4, h5, h6, h7, h8⟩
    · exact ⟨none, 0, rfl, .inl (List.length_eq_zero_iff.1 hl), Nat.le_refl _, by simp [maxLen]⟩
    · refine ⟨some ⟨g, 0, none⟩, cap, rfl, .inr ⟨g, 0, rfl, (Array.getElem?_eq_some_iff.1 h4).1, fun i hi => ?_⟩, h5, h6⟩
      rw [Nat.zero_add, cell_of_heap h4, ← Array.getElem?_toList, ← scells_at l i hi, ← h8, List.getElem?_take, if_pos (by omega)]
theorem SApp.below {w w' : World} {B : Nat} {v : Value} {n : Nat} {l : List (List UInt8)} (h : SApp w B v n l) (b : Below w.heap.size w w') : SApp w' B v n l := by
  rcases h with ⟨a, rfl, h⟩ | h
  · exact .inl ⟨a, rfl, h.below b⟩
  · refine .inr (h.kept (row := none) ⟨b.os, b.tape, b.output, b.size, fun k hk _ => b.block k hk⟩ ?_)
    cases hv : v.ownBlock <;> simp
theorem sapp_more (w : World) (B : Nat) (v : Value) (n : Nat) (l : List (List UInt8)) (h : SApp w B v n l) (hn : l.length = n) (a2 : Option Addr) (n2 cap2 : Nat) (l2 : List (List UInt8)) (hb : HasS w a2 l2) (hn2 : l2.length = n2) (hl : n + n2 ≤ 1099511627776) (hB : B ≤ w.heap.size) :
    ∃ v' w', (Builtin.append_ #[45, 45] 45 #[v, .slice a2 n2 cap2]).run Tryd.prog w = .ok v' w' ∧ SApp w' B v' (n + n2) (l ++ l2) ∧ Below B w w' := by
  subst hn; subst hn2
  obtain ⟨i0, hi, hz0, hz1, hz2⟩ := info_parts info9
  have ht := Tryd.underlying45
  have hnone : l2 = [] → ∃ v' w', (Builtin.append_ #[45, 45] 45 #[v, .slice a2 l2.length cap2]).run Tryd.prog w = .ok v' w' ∧ SApp w' B v' (l.length + l2.length) (l ++ l2) ∧ Below B w w' := by
    rintro rfl
    refine ⟨v, w, ?_, by simpa using h, ⟨rfl, rfl, rfl, Nat.le_refl _, fun _ _ => rfl⟩⟩
    rcases h with ⟨a, rfl, -⟩ | ⟨-, ⟨rfl, h0⟩ | ⟨g, cp, cur, rfl, -, hg, hn, -⟩⟩
    · cases a2 <;> cases a <;> simp [Builtin.append_, run_underlying ht, sizeOf, typeInfo, hi, Builtin.lenOf, Builtin.firstCells, loadCells, loadCellsFrom, storeCells]
    · cases a2 <;> simp [Builtin.append_, run_underlying ht, sizeOf, typeInfo, hi, Builtin.lenOf, Builtin.firstCells, loadCells, loadCellsFrom]
    · cases a2 <;> simp [Builtin.append_, run_underlying ht, sizeOf, typeInfo, hi, Builtin.lenOf, Builtin.firstCells, loadCells, loadCellsFrom, hn, storeCells]
  rcases hb with h0 | ⟨b2, off2, rfl, hlt2, hc2⟩
  · exact hnone h0
  rcases Nat.eq_zero_or_pos l2.length with h0 | h0
  · exact hnone (List.length_eq_zero_iff.1 h0)
  have grown : ∀ (old : Nat), old < l.length + l2.length → SApp (w.drew.alloc (.cells ((scells l).toArray ++ (scells l2).toArray ++ Builtin.zeroCells (Value.string ⟨#[]⟩).cells (grownCap w (l.length + l2.length) old 9 - (l.length + l2.length))) 9)) B (.slice (some ⟨w.heap.size, 0, none⟩) (l.length + l2.length) (grownCap w (l.length + l2.length) old 9)) (l.length + l2.length) (l ++ l2) := by
    intro old ho
    refine .inr ⟨by rw [scells_len, List.length_append, Nat.mul_one], .inr ⟨w.heap.size, _, _, rfl, hB, heap_alloc_new w.drew _, grownCap_ge _ _ _ _, grownCap_le_maxLen _ _ _ _ (by simp [maxLen]; omega), ?_, ?_⟩⟩
    · have := grownCap_ge w (l.length + l2.length) old 9
      simp only [Array.size_append, List.size_toArray, size_zeroCells, scells_len]
      simp [Value.cells]; omega
    · rw [scells_app]
      simp only [Array.toList_append, List.append_assoc]
      rw [← List.append_assoc, List.take_left' (by simp [scells_len])]
  rcases h with ⟨a, rfl, hb1⟩ | hown
  · have hfit := growslice_fits (need := l.length + l2.length) (old := l.length) (bytes := i0.bytes) (by omega) (by rw [hz2]; omega)
    rcases hb1 with h1 | ⟨b1, off1, rfl, hlt1, hc1⟩
    · subst h1
      cases a with
      | none =>
        have hr := run_append_nil (P := Tryd.prog) w 45 45 9 i0 _ ht hi hz0 ⟨b2, off2, none⟩ l2.length cap2 (scells l2) (by rw [hz1, scells_len]; omega) (scells_cell hc2) h0 (by omega) (by rw [hz2]; omega)
        refine ⟨_, _, hr, ?_, (Below.refl _ _).drew.alloc hB _⟩
        have := grown 0 (by simp; omega)
        simpa [scells] using this
      | some a =>
        have hr := run_append_grow (P := Tryd.prog) w 45 45 9 i0 _ ht hi hz0 a 0 0 [] (by simp) (by simp) ⟨b2, off2, none⟩ l2.length cap2 (scells l2) (by rw [hz1, scells_len]; omega) (scells_cell hc2) (by omega) (by omega) hfit
        refine ⟨_, _, hr, ?_, (Below.refl _ _).drew.alloc hB _⟩
        have := grown 0 (by simp; omega)
        simpa [scells] using this
    · have hr := run_append_grow (P := Tryd.prog) w 45 45 9 i0 _ ht hi hz0 ⟨b1, off1, none⟩ l.length l.length (scells l) (by rw [hz1, scells_len]; omega) (scells_cell hc1) ⟨b2, off2, none⟩ l2.length cap2 (scells l2) (by rw [hz1, scells_len]; omega) (scells_cell hc2) (by omega) (by omega) hfit
      exact ⟨_, _, hr, grown l.length (by omega), (Below.refl _ _).drew.alloc hB _⟩
  · obtain ⟨v', w', h1, h2, h3, -⟩ := run_append_own (P := Tryd.prog) w B 45 45 9 i0 (.string ⟨#[]⟩) 1 16 ht hi hz0 hz1 hz2 rfl (by decide) v l.length (scells l) hown ⟨b2, off2, none⟩ l2.length cap2 (scells l2) (by rw [scells_len, Nat.mul_one]) (scells_cell hc2) (scells_one l2) (by simp [maxLen]; omega) (by omega) hB
    exact ⟨v', w', h1, .inr (by rw [scells_app]; exact h2), below_of_grown h3 hB fun k e => (hown.lt k e).1⟩
end Go.Proofs.YtafmhhhboihdfaaDoor
namespace Go.Proofs.YtafmhhhboihdfaaDoor
open Go.RowKit
set_option linter.unusedVariables false
theorem conv_str (w : World) (a : Option Addr) (n cap : Nat) (l : List UInt8) (hn : l.length = n) (h : HasB w a l) : (convert 22 9 (.slice a n cap)).run Tryd.prog w = .ok (.string ⟨l.toArray⟩) w := by
  subst hn
  rcases h with rfl | ⟨b, off, rfl, _, hc⟩
  · cases a with
    | none => rw [run_convert_bytes_string w 22 9 5 none _ cap Tryd.underlying22 Tryd.underlying5 Tryd.underlying9]; simp [Conv.bytesToString]; rfl
    | some a => exact run_convert_bytes_back w 22 9 5 a cap [] Tryd.underlying22 Tryd.underlying5 Tryd.underlying9 (fun j hj => absurd hj (by simp))
  · refine run_convert_bytes_back w 22 9 5 ⟨b, off, none⟩ cap l Tryd.underlying22 Tryd.underlying5 Tryd.underlying9 fun j hj => ?_
    rw [add_off]; exact hc j hj
/-- a string's bytes, as '[]byte(s)' lays them -/
theorem bytes_of (w : World) (s : ByteArray) (hs : s.size ≤ 140737488351232) : ∃ (cap : Nat) (C : Array Value) (fz : Nat × Nat), (convert 9 22 (.string s)).run Tryd.prog w = .ok (.slice (some ⟨w.heap.size, 0, none⟩) s.size cap) ((w.alloc (.cells C 5 fz)).drew) ∧
    HasB ((w.alloc (.cells C 5 fz)).drew) (some ⟨w.heap.size, 0, none⟩) (bl s) ∧ s.size ≤ cap ∧ cap ≤ 9223372036854775807 ∧ Below w.heap.size w ((w.alloc (.cells C 5 fz)).drew) := by
  refine ⟨_, _, _, run_bytes_of_string (P := Tryd.prog) w 9 22 5 s Tryd.underlying9 Tryd.underlying22 Tryd.underlying5, ?_, grownCap_ge _ _ _ _, ?_, ((Below.refl _ _).alloc (Nat.le_refl _) _).drew⟩
  · refine .inr ⟨_, 0, rfl, by simp, fun i hi => ?_⟩
    have hi' : i < s.size := by rwa [bl_len] at hi
    have hd : i < s.data.size := hi'
    have h1 : ((w.alloc (.cells (bytesRow s (grownCap w s.size 0 5)) 5 ((bytesRow s (grownCap w s.size 0 5)).size, (bytesRow s (grownCap w s.size 0 5)).size + 1))).drew).cell? ⟨w.heap.size, 0 + i, none⟩ = (bytesRow s (grownCap w s.size 0 5))[0 + i]? := cell_of_heap (heap_alloc_new w _)
    rw [h1, Nat.zero_add, bytesRow, Array.getElem?_append_left (by simpa using hd)]
    have e : s.data[i]? = some s.data[i] := Array.getElem?_eq_getElem hd
    simp only [Array.getElem?_map, e, Option.map_some]
    simp [bl, iv]
  · have := grownCap_le_maxLen w s.size 0 5 (by simp [maxLen]; omega)
    simpa [maxLen] using this
set_option maxRecDepth 100000 in
set_option maxHeartbeats 1600000 in
theorem quote_any (w : World) (s : ByteArray) (hs : s.size ≤ 1048576) :
    Calls Tryd.prog 15 #[.string s] w fun e w' => e = .returned (.string ⟨(quoteS (bl s)).toArray⟩) ∧ Below w.heap.size w w' := by
  have hlen := bl_len s
  have hat : ∀ j (hj : j < s.size), ((bl s).take (j + 1) = (bl s).take j ++ [s[j]]) := fun j hj => by
    rw [take_snoc _ _ (by rw [bl_len]; exact hj)]; rfl
  have HA := Lib.hid hat
  have HL := Lib.hid hlen
  have HCV := Lib.hid (fun (W : World) (a : Option Addr) (n cap : Nat) (l : List UInt8) (hn : l.length = n) (h : HasB W a l) => conv_str W a n cap l hn h)
  clear hat hlen
  go_enter Tryd.func15, Tryd.ntmps15
  go_wp2_with fail
  go_loopw [3, 7] (fun o k wr => ∃ j : Nat, k = .int .i64 j ∧ j ≤ s.size ∧ App wr w.heap.size o (quoteS ((bl s).take j)).length (quoteS ((bl s).take j)) ∧ Below w.heap.size w wr) (fun _ k _ => s.size - (intOf k).toNat)
  case atStart => exact ⟨0, rfl, Nat.zero_le _, .inr (World.ownsRow_nil _ _ _ _), Below.refl _ _⟩
  case round =>
    obtain ⟨j, rfl, hj, happ, hbel⟩ := hrel
    have HB := Lib.hid hbel
    have HAP := Lib.hid happ
    clear hbel happ
    by_cases hlt : j < s.size
    · have hltI : (j : Int) < (s.size : Int) := by omega
      have HE := Lib.hid (HA.out j hlt)
      have hqb : (quoteS ((bl s).take j)).length ≤ 2097152 := by have := (quote_len ((bl s).take j)).1; simp [HL.out] at this; omega
      obtain ⟨c, hcc⟩ : ∃ c, s[j]'hlt = c := ⟨_, rfl⟩
      rw [hcc] at HE
      have HCC := Lib.hid hcc
      clear hcc
      have HQ := Lib.hid (show quoteS ((bl s).take (j + 1)) = quoteS ((bl s).take j) ++ quoteS [c] by rw [HE.out, quote_append])
      generalize quoteS ((bl s).take j) = q at *
      obtain ⟨nq, hnq⟩ : ∃ nq, q.length = nq := ⟨_, rfl⟩
      rw [hnq] at HAP hqb
      have HNQ := Lib.hid hnq
      clear hnq
      have hn92 : HasB (wr.alloc (.cells #[.int .u8 92] 5)) (some ⟨wr.heap.size, 0, none⟩) [92] := hasB_new wr [92] _ _ rfl
      obtain ⟨x, hx⟩ : ∃ x : Int, ((s[j]'hlt).toNat : Int) = x := ⟨_, rfl⟩
      have hx0 : 0 ≤ x := by omega
      have hx1 : x ≤ 255 := by have := (s[j]'hlt).toNat_lt; omega
      have HX := Lib.hid (show iv c = x by rw [← HCC.out]; exact hx)
      by_cases hsp : c = 42 ∨ c = 63 ∨ c = 91 ∨ c = 92
      · obtain ⟨v1, W1, h11, h12, h13⟩ := app_more (wr.alloc (.cells #[.int .u8 92] 5)) w.heap.size u3 nq q (HAP.out.below ((Below.refl _ _).alloc (Nat.le_refl _) _)) HNQ.out (some ⟨wr.heap.size, 0, none⟩) 1 1 [92] hn92 rfl (by omega) (by have := HB.out.size; simp; omega)
        have b1 : Below w.heap.size w W1 := (HB.out.alloc HB.out.size _).trans h13
        have hnc : HasB (W1.alloc (.cells #[.int .u8 x] 5)) (some ⟨W1.heap.size, 0, none⟩) [c] := hasB_new W1 [c] _ _ (by simp [HX.out])
        obtain ⟨v2, W2, h21, h22, h23⟩ := app_more (W1.alloc (.cells #[.int .u8 x] 5)) w.heap.size v1 (nq + 1) (q ++ [92]) (h12.below ((Below.refl _ _).alloc (Nat.le_refl _) _)) (by simp [HNQ.out]) (some ⟨W1.heap.size, 0, none⟩) 1 1 [c] hnc rfl (by omega) (by have := b1.size; simp; omega)
        have HA1 := Lib.hid h11
        have HA2 := Lib.hid h21
        have HAN := Lib.hid (show App W2 w.heap.size v2 (quoteS ((bl s).take (j + 1))).length (quoteS ((bl s).take (j + 1))) by
          have e : quoteS ((bl s).take (j + 1)) = q ++ [92] ++ [c] := by rw [HQ.out, quoteS, if_pos hsp]; simp [quoteS]
          rw [e]; simpa [HNQ.out] using h22)
        have HBN := Lib.hid ((b1.alloc b1.size _).trans h23)
        have h4 : x = 42 ∨ x = 63 ∨ x = 91 ∨ x = 92 := by
          have e := HX.out
          rcases hsp with h | h | h | h
          · rw [h] at e; exact .inl e.symm
          · rw [h] at e; exact .inr (.inl e.symm)
          · rw [h] at e; exact .inr (.inr (.inl e.symm))
          · rw [h] at e; exact .inr (.inr (.inr e.symm))
        clear h11 h12 h13 h21 h22 h23 b1 hnc hn92 hsp HX HQ HE HCC
        rcases h4 with rfl | rfl | rfl | rfl
        all_goals
          clear hx0 hx1
          go_wp2_with (first | (at_builtin; refine wpList_append_run rfl (.tmp 18) (.tmp 19) _ rfl _ _ _ rfl rfl HA1.out ?_) | (at_builtin; refine wpList_append_run rfl (.tmp 21) (.tmp 25) _ rfl _ _ _ rfl rfl HA2.out ?_))
          go_roundw
          case rel => exact ⟨j + 1, by go_num, by omega, HAN.out, HBN.out⟩
          case measure => simp [intOf]; omega
      · have hnc : HasB (wr.alloc (.cells #[.int .u8 x] 5)) (some ⟨wr.heap.size, 0, none⟩) [c] := hasB_new wr [c] _ _ (by simp [HX.out])
        obtain ⟨v2, W2, h21, h22, h23⟩ := app_more (wr.alloc (.cells #[.int .u8 x] 5)) w.heap.size u3 nq q (HAP.out.below ((Below.refl _ _).alloc (Nat.le_refl _) _)) HNQ.out (some ⟨wr.heap.size, 0, none⟩) 1 1 [c] hnc rfl (by omega) (by have := HB.out.size; simp; omega)
        have HA2 := Lib.hid h21
        have HAN := Lib.hid (show App W2 w.heap.size v2 (quoteS ((bl s).take (j + 1))).length (quoteS ((bl s).take (j + 1))) by
          have e : quoteS ((bl s).take (j + 1)) = q ++ [c] := by rw [HQ.out, quoteS, if_neg hsp]; simp [quoteS]
          rw [e]; simpa [HNQ.out] using h22)
        have HBN := Lib.hid ((HB.out.alloc HB.out.size _).trans h23)
        have i1 : ¬ x = 42 := fun e => hsp (.inl (iv_inj (HX.out.trans e)))
        have i2 : ¬ x = 63 := fun e => hsp (.inr (.inl (iv_inj (HX.out.trans e))))
        have i3 : ¬ x = 91 := fun e => hsp (.inr (.inr (.inl (iv_inj (HX.out.trans e)))))
        have i4 : ¬ x = 92 := fun e => hsp (.inr (.inr (.inr (iv_inj (HX.out.trans e)))))
        clear h21 h22 h23 hnc hn92 hsp HX HQ HE HCC
        go_wp2_with (first | (at_builtin; refine wpList_append_run rfl (.tmp 21) (.tmp 25) _ rfl _ _ _ rfl rfl HA2.out ?_))
        go_roundw
        case rel => exact ⟨j + 1, by go_num, by omega, HAN.out, HBN.out⟩
        case measure => simp [intOf]; omega
    · have hltI : ¬ (j : Int) < (s.size : Int) := by omega
      have hjs : j = s.size := by omega
      have hq : (bl s).take j = bl s := List.take_of_length_le (by rw [HL.out]; omega)
      rw [hq] at HAP
      have hqb : (quoteS (bl s)).length ≤ 2097152 := by have := (quote_len (bl s)).1; rw [HL.out] at this; omega
      obtain ⟨a, cap, rfl, h1, h2, h3⟩ := HAP.out.out rfl (by simp [maxLen]; omega)
      have hcv := HCV.out wr a _ cap (quoteS (bl s)) rfl h1
      clear hq hqb HAP
      obtain ⟨nq, hnq⟩ : ∃ nq, (quoteS (bl s)).length = nq := ⟨_, rfl⟩
      rw [hnq] at hcv h2 ⊢
      obtain ⟨q, hqq⟩ : ∃ q : ByteArray, ⟨(quoteS (bl s)).toArray⟩ = q := ⟨_, rfl⟩
      rw [hqq] at hcv
      have HQQ := Lib.hid hqq
      clear hnq hqq h1 hjs
      go_wp2_with fail
      go_ret
      exact ⟨by rw [HQQ.out]; rfl, HB.out⟩
end Go.Proofs.YtafmhhhboihdfaaDoor
namespace Go.Proofs.YtafmhhhboihdfaaDoor
open Go.RowKit
set_option linter.unusedVariables false
theorem size9 (w : World) : (Go.sizeOf 9).run Tryd.prog w = .ok 1 w := by kernel_rfl
/-- 'l[j:]' of strings -/
theorem tail_anyS (aS : Option Addr) (m cap j : Nat) (hj : j ≤ m) (hm : m ≤ cap) (hc : cap ≤ 9223372036854775807) : ∃ A, (∀ W : World, (Instr.slice 45 (.slice aS m cap) (some (.int .i64 (j : Int))) none none).run Tryd.prog W = .ok (.slice A (m - j) (cap - j)) W) ∧
    ∀ (W : World) (l : List (List UInt8)), l.length = m → HasS W aS l → HasS W A (l.drop j) := by
  have ht' : Tryd.prog.underlying 45 = some (.slice (Tryd.prog.elem 45)) := by simp [Program.elem, Tryd.underlying45]
  have he : Tryd.prog.elem 45 = 9 := by simp [Program.elem, Tryd.underlying45]
  have hrun : ∀ W : World, (Instr.slice 45 (.slice aS m cap) (some (.int .i64 (j : Int))) none none).run Tryd.prog W = .ok (.slice (match aS with | none => none | some a => some (if cap = j then a else a.add j)) (m - j) (cap - j)) W := fun W => by
    rw [run_slice_l W 45 _ _ _ ht' .i64 _ (by omega) (by omega), he, size9]
    cases aS with
    | none => simp [Result.andThen, sliced]
    | some a =>
      by_cases h0 : cap = j
      · simp [Result.andThen, sliced, h0]
      · simp [Result.andThen, sliced, h0]
  refine ⟨_, hrun, fun W l hl hb => ?_⟩
  rcases hb with rfl | ⟨b, off, rfl, hlt, hx⟩
  · exact .inl (by simp)
  · by_cases h0 : cap = j
    · exact .inl (List.drop_of_length_le (by omega))
    · refine .inr ⟨b, off + j, ?_, hlt, fun i hi => ?_⟩
      · simp only [if_neg h0, add_off]
      · rw [List.getElem_drop, show off + j + i = off + (j + i) by omega]
        exact hx (j + i) (by simp at hi; omega)
/-- 'l[:j:j]' of strings -/
theorem head_anyS (aS : Option Addr) (m cap j : Nat) (hj : j ≤ m) (hm : m ≤ cap) (hc : cap ≤ 9223372036854775807) : ∃ A, (∀ W : World, (Instr.slice 45 (.slice aS m cap) none (some (.int .i64 (j : Int))) (some (.int .i64 (j : Int)))).run Tryd.prog W = .ok (.slice A j j) W) ∧
    ∀ (W : World) (l : List (List UInt8)), l.length = m → HasS W aS l → HasS W A (l.take j) := by
  have ht' : Tryd.prog.underlying 45 = some (.slice (Tryd.prog.elem 45)) := by simp [Program.elem, Tryd.underlying45]
  have he : Tryd.prog.elem 45 = 9 := by simp [Program.elem, Tryd.underlying45]
  have hrun : ∀ W : World, (Instr.slice 45 (.slice aS m cap) none (some (.int .i64 (j : Int))) (some (.int .i64 (j : Int)))).run Tryd.prog W = .ok (.slice (match aS with | none => none | some a => some (if j = 0 then a else a.add 0)) j j) W := fun W => by
    rw [run_slice_hm W 45 _ _ _ ht' .i64 .i64 _ _ (by omega) (by omega) (by omega), he, size9]
    cases aS with
    | none => simp [Result.andThen, sliced]
    | some a => by_cases h0 : j = 0 <;> simp [Result.andThen, sliced, h0]
  refine ⟨_, hrun, fun W l hl hb => ?_⟩
  rcases hb with rfl | ⟨b, off, rfl, hlt, hx⟩
  · exact .inl (by simp)
  · refine .inr ⟨b, off, ?_, hlt, fun i hi => ?_⟩
    · simp only [add_off, Nat.add_zero, ite_self]
    · rw [List.getElem_take]
      exact hx i (by simp at hi; omega)
theorem bless : ∀ (x y : List UInt8), Op.bytesLess x y = decide (x < y)
  | [], [] => by simp [Op.bytesLess]
  | _ :: _, [] => by simp [Op.bytesLess]
  | [], _ :: _ => by simp [Op.bytesLess]
  | a :: x, b :: y => by
    rw [Op.bytesLess, bless x y]
    simp only [List.cons_lt_cons_iff]
    by_cases h1 : a < b <;> by_cases h2 : a = b <;> by_cases h3 : x < y <;> simp [h1, h2, h3]
theorem cell_str {w : World} {p : Addr} {l : List UInt8} (h : w.cell? p = some (encStr l)) : ∃ x : ByteArray, w.cell? p = some (.string x) ∧ bl x = l := ⟨⟨l.toArray⟩, h, by simp [bl]⟩
theorem put_front (s : List UInt8) : ∀ (A B : List (List UInt8)), (∀ x ∈ A, x < s) → putS s (A ++ B) = A ++ putS s B
  | [], B, _ => rfl
  | x :: A, B, h => by
    rw [List.cons_append, putS, if_pos (h x (by simp)), put_front s A B (fun y hy => h y (by simp [hy])), List.cons_append]
theorem put_at (s : List UInt8) (L : List (List UInt8)) (j : Nat) (h : ∀ i (hi : i < j) (hl : i < L.length), L[i] < s) : putS s L = L.take j ++ putS s (L.drop j) := by
  conv => lhs; rw [← List.take_append_drop j L]
  refine put_front s _ _ fun x hx => ?_
  obtain ⟨i, hi, rfl⟩ := List.mem_iff_getElem.1 hx
  rw [List.getElem_take]
  exact h i (by simp at hi; omega) (by simp at hi; omega)
theorem put_end (s : List UInt8) (L : List (List UInt8)) (h : ∀ i (hi : i < L.length) (hl : i < L.length), L[i] < s) : putS s L = L.take L.length ++ s :: L.drop L.length := by
  rw [put_at s L L.length h, List.drop_length]; rfl
theorem put_there (s : List UInt8) (L : List (List UInt8)) (j : Nat) (hj : j < L.length) (h : ∀ i (hi : i < j) (hl : i < L.length), L[i] < s) (hs : L[j] = s) : putS s L = L := by
  have e := List.drop_eq_getElem_cons hj
  rw [put_at s L j h, e, putS, if_neg (by rw [hs]; exact List.lt_irrefl s), if_pos hs, ← e, List.take_append_drop]
theorem put_new (s : List UInt8) (L : List (List UInt8)) (j : Nat) (hj : j < L.length) (h : ∀ i (hi : i < j) (hl : i < L.length), L[i] < s) (h1 : ¬ L[j] < s) (h2 : ¬ L[j] = s) : putS s L = L.take j ++ s :: L.drop j := by
  have e := List.drop_eq_getElem_cons hj
  rw [put_at s L j h, e, putS, if_neg h1, if_neg h2, ← e]
theorem step_append_run {P : Program} {w w' : World} {ops : Array Oper} {o : Oper} {a : Act} {K : Act → World → Prop} {Q : Exit → Act → World → Prop} {E : Prop} (hgd : o.guard = none) (s x : Operand) (t : TypeId)
    (ho : o.op = .call { callee := .builtin .append, args := #[s, x], argTypes := #[t, t] }) (v1 v2 v : Value) (hs : a.eval s = v1) (hx : a.eval x = v2)
    (hr : (Builtin.append_ #[t, t] o.type #[v1, v2]).run P w = .ok v w') (hK : K (a.put o.dst v) w') : if Region.wanted o (yielded ops a.tmps) = true then Oper.wp P o a w K Q else E := by
  have hw : Region.wanted o (yielded ops a.tmps) = true := by simp [Region.wanted, hgd]
  rw [if_pos hw]
  unfold Oper.wp
  simp [execOp, ho, resolve, invoke, builtin, hs, hx, hr, Result.andThen]
  exact hK
/-- a string put between the front and the rest of a row -/
theorem put_between (w : World) (A1 A2 : Option Addr) (j k c2 : Nat) (F T : List (List UInt8)) (s : ByteArray) (hF : F.length = j) (hT : T.length = k) (h1 : HasS w A1 F) (h2 : HasS w A2 T) (hj : j + k ≤ 4096) :
    ∃ v1 w1 a2 n2 cap2 w2, (Builtin.append_ #[45, 45] 45 #[.slice (some ⟨w.heap.size, 0, none⟩) 1 1, .slice A2 k c2]).run Tryd.prog ((w.alloc (.cells #[.string s] 9)).drew) = .ok v1 w1 ∧
      (Builtin.append_ #[45, 45] 45 #[.slice A1 j j, v1]).run Tryd.prog w1 = .ok (.slice a2 n2 cap2) w2 ∧ n2 = (F ++ bl s :: T).length ∧ HasS w2 a2 (F ++ bl s :: T) ∧ n2 ≤ cap2 ∧ cap2 ≤ maxLen ∧ Below w.heap.size w w2 := by
  have hb0 : Below w.heap.size w ((w.alloc (.cells #[.string s] 9)).drew) := ((Below.refl _ _).alloc (Nat.le_refl _) _).drew
  have hn : HasS ((w.alloc (.cells #[.string s] 9)).drew) (some ⟨w.heap.size, 0, none⟩) [bl s] := by
    refine .inr ⟨w.heap.size, 0, rfl, by simp, fun i hi => ?_⟩
    obtain rfl : i = 0 := by simpa using hi
    have := cell_of_heap (w := (w.alloc (.cells #[.string s] 9)).drew) (k := 0) (heap_alloc_new w (.cells #[.string s] 9))
    rw [Nat.zero_add, this]
    simp only [List.getElem_cons_zero, enc_bl]
    rfl
  obtain ⟨v1, w1, hr1, hA1, hB1⟩ := sapp_more _ w.heap.size (.slice (some ⟨w.heap.size, 0, none⟩) 1 1) 1 [bl s] (.inl ⟨_, rfl, hn⟩) rfl A2 k c2 T (h2.below hb0) hT (by omega) (by simp)
  obtain ⟨a1, c1, rfl, hS1, hc1, hc1'⟩ := hA1.out (by simp; omega) (by unfold maxLen; omega)
  have hb1 : Below w.heap.size w w1 := hb0.trans hB1
  obtain ⟨v2, w2, hr2, hA2, hB2⟩ := sapp_more w1 w.heap.size (.slice A1 j j) j F (.inl ⟨_, rfl, h1.below hb1⟩) hF a1 (1 + k) c1 ([bl s] ++ T) hS1 (by simp; omega) (by omega) hb1.size
  obtain ⟨a2, cap2, rfl, hS2, hc2, hc2'⟩ := hA2.out (by simp; omega) (by unfold maxLen; omega)
  exact ⟨_, w1, a2, _, cap2, w2, hr1, hr2, by simp; omega, by simpa using hS2, hc2, hc2', hb1.trans hB2⟩
set_option maxRecDepth 100000 in
set_option maxHeartbeats 1600000 in
theorem rstrings_same (w : World) (a b : Option Addr) (n capA capB : Nat) (L : List (List UInt8)) (hn : L.length = n) (ha : HasS w a L) (hb : HasS w b L) (h1 : n ≤ capA) (h2 : n ≤ capB) (h3 : capA ≤ 9223372036854775807) (h4 : capB ≤ 9223372036854775807) :
    Calls Tryd.prog 26 #[.slice a n capA, .slice b n capB] w fun e w' => e = .returned (.bool true) ∧ Below w.heap.size w w' := by
  have HA := Lib.hid ha
  have HB := Lib.hid hb
  have HN := Lib.hid hn
  have hnn : ((n : Int) != (n : Int)) = false := by simp
  clear ha hb hn
  go_enter Tryd.func26, Tryd.ntmps26
  go_wp2_with fail
  go_loopw [13] (fun x wr => ∃ j q : Nat, x = .int .i64 j ∧ j ≤ n ∧ wr = w.drewN q) (fun x _ => n - (intOf x).toNat)
  case atStart => exact ⟨0, 0, rfl, by omega, by rw [World.drewN_zero]⟩
  case round =>
    obtain ⟨j, q, rfl, hj, rfl⟩ := hrel
    by_cases hlt : j < n
    · have hjI : (j : Int) < (n : Int) := by omega
      have hj0 : (0 : Int) ≤ (j : Int) := by omega
      have hjl : j < L.length := by rw [HN.out]; exact hlt
      rcases HA.out with hE | ⟨ba, oa, rfl, -, ca⟩
      · rw [hE] at hjl; simp at hjl
      rcases HB.out with hE | ⟨bb, ob, rfl, -, cb⟩
      · rw [hE] at hjl; simp at hjl
      obtain ⟨x, cx, hx⟩ := cell_str (ca j hjl)
      obtain ⟨y, cy, hy⟩ := cell_str (cb j hjl)
      obtain rfl : x = y := by
        have e : bl x = bl y := by rw [hx, hy]
        unfold bl at e
        cases x; cases y; simp at e; rw [e]
      have cx' : ∀ k, (w.drewN k).cell? ⟨ba, oa + j, none⟩ = some (.string x) := fun k => cx
      have cy' : ∀ k, (w.drewN k).cell? ⟨bb, ob + j, none⟩ = some (.string x) := fun k => cy
      have hxx : (x.toList != x.toList) = false := by simp
      clear ca cb cx cy hx hy
      go_wp2_with fail
      go_quiet (fail)
      go_wp2_with fail
      go_roundw
      case rel => exact ⟨j + 1, _, by go_num, by omega, rfl⟩
      case measure => simp [intOf]; omega
    · have hjI : ¬ (j : Int) < (n : Int) := by omega
      obtain rfl : j = n := by omega
      have HD := Lib.hid (show Below w.heap.size w (w.drewN q) from ⟨rfl, rfl, rfl, Nat.le_refl _, fun _ _ => rfl⟩)
      go_wp2_with fail
      go_ret
      exact ⟨rfl, HD.out⟩
set_option maxRecDepth 100000 in
set_option maxHeartbeats 1600000 in
theorem rput_any (w : World) (a : Option Addr) (n cap : Nat) (L : List (List UInt8)) (s : ByteArray) (hn : L.length = n) (ha : HasS w a L) (h1 : n ≤ cap) (h2 : cap ≤ maxLen) (h3 : n ≤ 4096) :
    Calls Tryd.prog 45 #[.slice a n cap, .string s] w fun e w' => ∃ a' n' cap', e = .returned (.slice a' n' cap') ∧ (putS (bl s) L).length = n' ∧ HasS w' a' (putS (bl s) L) ∧ n' ≤ cap' ∧ cap' ≤ maxLen ∧ Below w.heap.size w w' := by
  have HA := Lib.hid ha
  have HN := Lib.hid hn
  have hcap : cap ≤ 9223372036854775807 := by unfold maxLen at h2; omega
  have HC := Lib.hid h2
  have hs0 := toList_bl s
  clear ha hn h2
  go_enter Tryd.func45, Tryd.ntmps45
  go_wp2_with fail
  go_loopw [5] (fun x wr => ∃ j : Nat, x = .int .i64 j ∧ j ≤ n ∧ wr = w ∧ ∀ i (hi : i < j) (hl : i < L.length), L[i] < bl s) (fun x _ => n - (intOf x).toNat)
  case atStart => exact ⟨0, rfl, by omega, rfl, fun i hi => by omega⟩
  case round =>
    obtain ⟨j, rfl, hj, rfl, hall⟩ := hrel
    have HALL := Lib.hid hall
    clear hall
    by_cases hlt : j < n
    · have hjI : (j : Int) < (n : Int) := by omega
      have hj0 : (0 : Int) ≤ (j : Int) := by omega
      have hjl : j < L.length := by rw [HN.out]; exact hlt
      rcases HA.out with hE | ⟨ba, oa, rfl, -, ca⟩
      · rw [hE] at hjl; simp at hjl
      obtain ⟨x, cx, hx⟩ := cell_str (ca j hjl)
      have HX := Lib.hid hx
      by_cases hless : bl x < bl s
      · have hl : Op.bytesLess x.toList s.toList = true := by rw [bless, toList_bl, toList_bl]; exact decide_eq_true hless
        have HL := Lib.hid hless
        clear ca hx hless hs0
        go_wp2_with fail
        go_roundw
        case rel =>
          refine ⟨j + 1, by go_num, by omega, (by first | rfl | trivial), fun i hi hl => ?_⟩
          by_cases e : i = j
          · subst e; rw [← HX.out]; exact HL.out
          · exact HALL.out i (by omega) hl
        case measure => simp [intOf]; omega
      · have hl : Op.bytesLess x.toList s.toList = false := by rw [bless, toList_bl, toList_bl]; exact decide_eq_false hless
        have HL := Lib.hid hless
        clear ca hx hless hs0
        by_cases heq : bl x = bl s
        · have he : (x.toList == s.toList) = true := by rw [toList_bl, toList_bl, heq]; simp
          have HP := Lib.hid (put_there (bl s) L j hjl HALL.out (by rw [← HX.out]; exact heq))
          clear heq
          go_wp2_with fail
          go_ret
          rw [HP.out]
          exact ⟨_, _, _, rfl, HN.out, HA.out, h1, HC.out, Below.refl _ _⟩
        · have he : (x.toList == s.toList) = false := by rw [toList_bl, toList_bl]; simpa using heq
          have HP := Lib.hid (put_new (bl s) L j hjl HALL.out (by rw [← HX.out]; exact HL.out) (by rw [← HX.out]; exact heq))
          clear heq
          obtain ⟨A1, hA1, hS1⟩ := head_anyS (some ⟨ba, oa, none⟩) n cap j (by omega) h1 hcap
          obtain ⟨A2, hA2, hS2⟩ := tail_anyS (some ⟨ba, oa, none⟩) n cap j (by omega) h1 hcap
          obtain ⟨v1, w1, a2, n2, cap2, w2, hr1, hr2, e1, e2, e3, e4, e5⟩ := put_between wr A1 A2 j (n - j) (cap - j) (L.take j) (L.drop j) s (by rw [List.length_take, HN.out]; omega) (by rw [List.length_drop, HN.out]) (hS1 wr L HN.out HA.out) (hS2 wr L HN.out HA.out) (by omega)
          rw [← HP.out] at e1 e2
          have HR := Lib.hid (And.intro e1 (And.intro e2 (And.intro e3 (And.intro e4 e5))))
          have HR1 := Lib.hid hr1
          have HR2 := Lib.hid hr2
          clear hS1 hS2 e1 e2 e3 e4 e5 hr1 hr2
          go_wp2_with fail
          go_region_law (first
            | (refine step_append_run rfl (.tmp 38) (.tmp 41) 45 rfl _ _ _ rfl rfl HR1.out ?_)
            | (refine step_append_run rfl (.tmp 36) (.tmp 42) 45 rfl _ _ _ rfl rfl HR2.out ?_))
          all_goals
            go_wp2_with fail
            go_ret
            exact ⟨_, _, _, rfl, HR.out.1.symm, HR.out.2.1, HR.out.2.2.1, HR.out.2.2.2.1, HR.out.2.2.2.2⟩
    · have hjI : ¬ (j : Int) < (n : Int) := by omega
      have HJN := Lib.hid (show j = n by omega)
      have HP := Lib.hid (show putS (bl s) L = L.take j ++ bl s :: L.drop j by
        have := put_end (bl s) L (fun i hi hl => HALL.out i (by rw [HN.out] at hl; omega) hl)
        rw [HN.out, ← HJN.out] at this; exact this)
      have hj0 : (0 : Int) ≤ (j : Int) := by omega
      have hjn : (j : Int) ≤ (n : Int) := by omega
      clear hs0 hlt
      obtain ⟨A1, hA1, hS1⟩ := head_anyS (a) n cap j (by omega) h1 hcap
      obtain ⟨A2, hA2, hS2⟩ := tail_anyS (a) n cap j (by omega) h1 hcap
      obtain ⟨v1, w1, a2, n2, cap2, w2, hr1, hr2, e1, e2, e3, e4, e5⟩ := put_between wr A1 A2 j (n - j) (cap - j) (L.take j) (L.drop j) s (by rw [List.length_take, HN.out]; omega) (by rw [List.length_drop, HN.out]) (hS1 wr L HN.out HA.out) (hS2 wr L HN.out HA.out) (by omega)
      rw [← HP.out] at e1 e2
      have HR := Lib.hid (And.intro e1 (And.intro e2 (And.intro e3 (And.intro e4 e5))))
      have HR1 := Lib.hid hr1
      have HR2 := Lib.hid hr2
      clear hS1 hS2 e1 e2 e3 e4 e5 hr1 hr2
      go_wp2_with fail
      go_region_law (first
        | (refine step_append_run rfl (.tmp 38) (.tmp 41) 45 rfl _ _ _ rfl rfl HR1.out ?_)
        | (refine step_append_run rfl (.tmp 36) (.tmp 42) 45 rfl _ _ _ rfl rfl HR2.out ?_))
      all_goals
        go_wp2_with fail
        go_ret
        exact ⟨_, _, _, rfl, HR.out.1.symm, HR.out.2.1, HR.out.2.2.1, HR.out.2.2.2.1, HR.out.2.2.2.2⟩
end Go.Proofs.YtafmhhhboihdfaaDoor
