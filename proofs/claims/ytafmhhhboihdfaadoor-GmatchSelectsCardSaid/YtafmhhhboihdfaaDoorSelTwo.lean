/-
  Joined texts: gmatch.Select. Conditions: those that each theorem names.
-/
import Derived.Test.YtafmhhhboihdfaaDoorSelOne
import Derived.BigQuiet
import Derived.Laws.StructEq
import Derived.Lib.OwnBridge
import Derived.Deep.RegionLaw
import Derived.Deep.CutBlock
import Derived.Deep.DeepCutAuto
import Derived.Outline
namespace Go.Proofs.YtafmhhhboihdfaaDoor
open Go.RowKit Go.Shelf
set_option linter.unusedVariables false
theorem eq68 (a b c d a' b' c' d' : Int) (w : World) : (Op.equalIn 10000 68 (.agg #[.int .u64 a, .int .u64 b, .int .u64 c, .int .u64 d]) (.agg #[.int .u64 a', .int .u64 b', .int .u64 c', .int .u64 d'])).run Tryd.prog w = .ok (a == a' && b == b' && c == c' && d == d') w := by
  have u3 := Tryd.underlying66
  have a3 := Tryd.isAgg66
  have z3 := Tryd.sizeOf66
  rw [show (10000 : Nat) = 9999 + 1 from rfl, Op.equalIn]
  simp only [Sem.run_bind, run_underlying Tryd.underlying68, Result.andThen_ok]
  simp only [Std.Legacy.Range.forIn_eq_forIn_range', Std.Legacy.Range.size, Nat.sub_zero, Nat.add_sub_cancel, Nat.div_one, List.range'_succ, List.range'_zero, List.forIn_cons, List.forIn_nil]
  go_simp
  by_cases h1 : a = a' <;> by_cases h2 : b = b' <;> by_cases h3 : c = c' <;> by_cases h4 : d = d' <;> simp [h1, h2, h3, h4]
theorem wd_ext {S T : BitVec 256} (h : ∀ k, k < 4 → wd S k = wd T k) : S = T := by
  refine BitVec.eq_of_getLsbD_eq fun i hi => ?_
  have e : 64 * (i / 64) + i % 64 = i := by omega
  rw [← e, ← wd_test S (i / 64) (i % 64) (by omega), ← wd_test T (i / 64) (i % 64) (by omega), h (i / 64) (by omega)]
theorem eq_sets (S T : BitVec 256) (w : World) : (Op.equalIn 10000 68 (.agg #[.int .u64 (wd S 0), .int .u64 (wd S 1), .int .u64 (wd S 2), .int .u64 (wd S 3)]) (.agg #[.int .u64 (wd T 0), .int .u64 (wd T 1), .int .u64 (wd T 2), .int .u64 (wd T 3)])).run Tryd.prog w = .ok (decide (S = T)) w := by
  rw [eq68]
  congr 1
  rw [Bool.eq_iff_iff]
  simp only [Bool.and_eq_true, beq_iff_eq, decide_eq_true_eq]
  constructor
  · rintro ⟨⟨⟨h0, h1⟩, h2⟩, h3⟩
    refine wd_ext fun k hk => ?_
    rcases (show k = 0 ∨ k = 1 ∨ k = 2 ∨ k = 3 by omega) with rfl | rfl | rfl | rfl <;> omega
  · rintro rfl; simp
theorem grow_below {B : Nat} {w w' : World} (h : Below B w w') (hB : B ≤ w.heap.size) (os : Array Obj) : Below B w (Go.Sort.grow w' os) :=
  ⟨h.os, h.tape, h.output, by simp [Go.Sort.grow]; have := h.size; omega, fun k hk => by
    rw [← h.block k hk]
    simp only [Go.Sort.grow]
    rw [Array.getElem?_append_left (by have := h.size; omega)]⟩
theorem grow_own {w : World} {base : Nat} {e : TypeId} {size : Nat} {v : Value} {n : Nat} {xs : List Value} (h : w.ownsRow base e size v n xs) (os : Array Obj) : (Go.Sort.grow w os).ownsRow base e size v n xs := by
  refine ⟨h.1, ?_⟩
  rcases h.2 with h2 | ⟨g, cap, cur, e1, e2, e3, e4⟩
  · exact .inl h2
  · refine .inr ⟨g, cap, cur, e1, e2, ?_, e4⟩
    simp only [Go.Sort.grow]
    rw [Array.getElem?_append_left (Array.getElem?_eq_some_iff.1 e3).1]; exact e3
/-- slices.Sort of a row of the call's own -/
theorem sort_own (w : World) (base : Nat) (v : Value) (Z : List (List UInt8)) (h : w.ownsRow base 9 1 v Z.length (scells Z)) (hB : base ≤ w.heap.size) (hz : Z.length ≤ 4096) :
    Calls Tryd.prog 42 #[v] w fun e w' => e = .returned (.tuple #[]) ∧ w'.ownsRow base 9 1 v Z.length (scells (Z.mergeSort fun x y => decide (x ≤ y))) ∧ Below base w w' := by
  by_cases hv : v = .slice none 0 0
  · subst hv
    have hz0 : Z.length = 0 := by
      rcases h.2 with ⟨-, h0⟩ | ⟨g, cap, cur, e1, -⟩
      · exact h0
      · cases e1
    have hZ : Z = [] := List.length_eq_zero_iff.1 hz0
    subst hZ
    exact (sort_none none 0 w).mono fun e w' ⟨h1, h2⟩ => ⟨h1, by subst h2; simpa using h, by subst h2; exact ⟨rfl, rfl, rfl, Nat.le_refl _, fun _ _ => rfl⟩⟩
  · obtain ⟨g, cap, rfl, hb, hg, hn, hc, hl, hH⟩ := Go.Lib.holds_of_ownsRow h hv
    refine (Any.slices_Sort_string Tryd.laysSort g 0 cap Z w hH hg (by omega)).mono ?_
    rintro e w' ⟨rfl, n, os, rfl⟩
    refine ⟨rfl, grow_own ?_ os, grow_below (Go.Lib.below_putRow ⟨rfl, rfl, rfl, Nat.le_refl _, fun _ _ => rfl⟩ hb) hB os⟩
    have := Go.Lib.ownsRow_putRow (q := n) (ys := Z.mergeSort fun x y => decide (x ≤ y)) (k := Z.length) h (by simp) (Nat.le_refl _)
    rw [List.take_of_length_le (by simp)] at this
    exact this
theorem compact_len (Z : List (List UInt8)) : (Lib.compact Z).length ≤ Z.length := by
  unfold Lib.compact Lib.compactUpTo
  rw [List.length_map]
  exact Nat.le_trans (List.length_filter_le _ _) (by simp)
/-- slices.Compact of a row of the call's own -/
theorem compact_own (w : World) (base : Nat) (v : Value) (Z : List (List UInt8)) (h : w.ownsRow base 9 1 v Z.length (scells Z)) (hB : base ≤ w.heap.size) (hz : Z.length ≤ 4096) :
    Calls Tryd.prog 44 #[v] w fun e w' => ∃ a cap, e = .returned (.slice a (Lib.compact Z).length cap) ∧ HasS w' a (Lib.compact Z) ∧ (Lib.compact Z).length ≤ cap ∧ cap ≤ maxLen ∧ Below base w w' := by
  by_cases hv : v = .slice none 0 0
  · subst hv
    have hz0 : Z.length = 0 := by
      rcases h.2 with ⟨-, h0⟩ | ⟨g, cap, cur, e1, -⟩
      · exact h0
      · cases e1
    have hZ : Z = [] := List.length_eq_zero_iff.1 hz0
    subst hZ
    exact (compact_none none 0 w).mono fun e w' ⟨h1, h2⟩ => ⟨none, 0, h1, .inl rfl, Nat.le_refl _, by unfold maxLen; omega, by subst h2; exact ⟨rfl, rfl, rfl, Nat.le_refl _, fun _ _ => rfl⟩⟩
  · obtain ⟨g, cap, rfl, hb, hg, hn, hc, hl, hH⟩ := Go.Lib.holds_of_ownsRow h hv
    have hlen := compact_len Z
    refine (Any.slices_Compact_string Tryd.laysCompact g 0 cap Z w hH (by omega) hn).mono ?_
    rintro e w' ⟨rfl, n, rfl⟩
    have h2 := Go.Lib.ownsRow_putRow (q := n) (ys := Lib.compact Z ++ List.replicate (Z.length - (Lib.compact Z).length) []) (k := (Lib.compact Z).length) h (by simp; omega) hlen
    rw [List.take_left' rfl] at h2
    refine ⟨_, cap, rfl, ?_, by omega, hc, Go.Lib.below_putRow ⟨rfl, rfl, rfl, Nat.le_refl _, fun _ _ => rfl⟩ hb⟩
    obtain ⟨a', c', e1, e2, -, -⟩ := (show SApp _ base _ _ (Lib.compact Z) from .inr h2).out rfl (by unfold maxLen; omega)
    injection e1 with e1
    rw [e1]; exact e2
theorem str_new (W : World) (x : ByteArray) (k : Nat) (u : Value) (h : ([.string x] : List Value)[k]? = some u) : (W.alloc (.cells #[.string x] 9)).cell? ((⟨W.heap.size, 0, none⟩ : Addr).add k) = some u := by
  rw [add_off, Nat.zero_add, cell_of_heap (heap_alloc_new W _), ← Array.getElem?_toList]
  exact h
theorem own_block {w : World} {base : Nat} {e : TypeId} {size : Nat} {v : Value} {n : Nat} {xs : List Value} (h : w.ownsRow base e size v n xs) {k : Nat} (hk : v.ownBlock = some k) : base ≤ k := by
  rcases h.2 with ⟨e1, -⟩ | ⟨g, cap, cur, e1, e2, -⟩
  · rw [e1] at hk; cases hk
  · rw [e1] at hk; have : g = k := by simpa [Value.ownBlock] using hk
    omega
/-- does a pattern begin with a dot? -/
def dotS : List Pc → Bool
  | [] => false
  | p :: _ => decide (p.kind = 1) && decide (p.set = bit 46)
/-- is a name among those that a pattern selects? -/
def keepS (l : List Pc) (s : List UInt8) : Bool := (dotS l || !Lib.hasPrefix s [46]) && mat l s
set_option maxRecDepth 100000 in
set_option maxHeartbeats 3200000 in
theorem select_any (w : World) (q B : Nat) (a : Option Addr) (n cap : Nat) (l : List Pc) (hn : l.length = n) (hnb : n ≤ 4096) (hq : PatAt w q a n cap) (hp : HasP w B a l) (hB : B ≤ w.heap.size)
    (aN : Option Addr) (m capN : Nat) (L : List (List UInt8)) (hL : HasS w aN L) (hm : L.length = m) (hmc : m ≤ capN) (hcN : capN ≤ 9223372036854775807) (hm4 : m ≤ 4096) (hshort : ∀ x ∈ L, x.length ≤ 4096) :
    Calls Tryd.prog 25 #[.pointer (some ⟨q, 0, none⟩), .slice aN m capN] w fun e w' => ∃ a' n' , e = .returned (.slice a' n' n') ∧ (putsS (L.filter (keepS l))).length = n' ∧ HasS w' a' (putsS (L.filter (keepS l))) ∧ n' ≤ maxLen ∧ Below w.heap.size w w' := by
  have HC := Lib.hid (pieces_own w q B a n cap l hn hq hp (by omega))
  go_enter Tryd.func25, Tryd.ntmps25
  go_wp2_with fail
  refine HC.out.mono ?_; rintro e w1 ⟨a', cap', rfl, hr, hc1, hc2, hb1⟩
  go_upto_region 2 with fail
  go_cut [6] (fun d wx => d = .bool (dotS l) ∧ Below w.heap.size w wx)
  case first =>
    have HB1 := Lib.hid hb1
    cases l with
    | nil =>
      obtain rfl : n = 0 := hn.symm
      clear hr hb1 HC
      go_wp2_with fail
      go_quiet (fail)
      go_wp2_with fail
      go_meet
      case rel => exact ⟨rfl, HB1.out.trans ⟨rfl, rfl, rfl, Nat.le_refl _, fun _ _ => rfl⟩⟩
    | cons p t =>
      have hn0 : 0 < n := by simp at hn; omega
      have hn1 : decide (0 < n) = true := decide_eq_true hn0
      rcases hr with hE | ⟨g, rfl, hrow, hg, hgB⟩
      · simp at hE
      rcases hrow.has hg with hE | ⟨b, off, hab, hbl, -, hcs⟩
      · simp at hE
      obtain ⟨q0, q1, q2, q3, q4⟩ := hcs 0 (by simp)
      simp only [List.getElem_cons_zero, Nat.zero_mul, Nat.add_zero] at q0 q1 q2 q3 q4
      obtain ⟨rfl, rfl⟩ : g = b ∧ 0 = off := by simpa using hab
      simp only [Nat.zero_add] at q1 q2 q3 q4
      have HH := Lib.hid (fun W => of_any ⟨#[46]⟩ W (by decide))
      by_cases hk : p.kind = 1
      · have hk' : (p.kind == 1) = true := by simpa using hk
        have HD := Lib.hid (show dotS (p :: t) = decide (p.set = bit 46) by simp [dotS, hk])
        have e46 : ofS (bl ⟨#[46]⟩) = bit 46 := by rw [show bl ⟨#[46]⟩ = [46] from rfl, ofS_one]; rfl
        rw [e46] at HH
        clear hk hb1 HC hcs hab hrow hn e46
        have hEQ := fun W => eq_sets p.set (bit 46) W
        generalize decide (p.set = bit 46) = D at *
        have q0d : w1.drew.cell? ⟨g, 0, none⟩ = _ := q0
        have q1d : w1.drew.cell? ⟨g, 1, none⟩ = _ := q1
        have q2d : w1.drew.cell? ⟨g, 2, none⟩ = _ := q2
        have q3d : w1.drew.cell? ⟨g, 3, none⟩ = _ := q3
        have q4d : w1.drew.cell? ⟨g, 4, none⟩ = _ := q4
        have HGL := Lib.hid (show g < w1.drew.heap.size from hg)
        clear q0 q1 q2 q3 q4
        go_upto_region 2 with fail
        unfold setV wv at HH
        go_region_law (first
          | (go_simp; go_at_call_of 40 (Value.string ⟨#[46]⟩); refine (HH.out _).mono ?_; rintro e w2 ⟨rfl, b2⟩; have HB2 := Lib.hid (HB1.out.drew.trans (b2.mono HB1.out.drew.size)); have q1e := (b2.cell (p := ⟨g, 1, none⟩) HGL.out).trans q1d; have q2e := (b2.cell (p := ⟨g, 2, none⟩) HGL.out).trans q2d; have q3e := (b2.cell (p := ⟨g, 3, none⟩) HGL.out).trans q3d; have q4e := (b2.cell (p := ⟨g, 4, none⟩) HGL.out).trans q4d; clear b2))
        all_goals
          go_wp2_with fail
          go_meet
          case rel => exact ⟨by rw [HD.out], HB2.out⟩
      · have hk' : (p.kind == 1) = false := by simpa using hk
        have HD := Lib.hid (show dotS (p :: t) = false by simp [dotS, hk])
        clear hk hb1 HC hcs hab hrow hn
        go_wp2_with fail
        go_quiet (fail)
        go_wp2_with fail
        go_meet
        case rel => exact ⟨by rw [HD.out], HB1.out.trans ⟨rfl, rfl, rfl, Nat.le_refl _, fun _ _ => rfl⟩⟩
  case rest =>
    obtain ⟨rfl, hb2⟩ := hcut
    obtain ⟨i9, hi9, hz0, hz1, hz2⟩ := info_parts info9
    have HB2 := Lib.hid hb2
    have HL := Lib.hid hL
    have HM := Lib.hid hm
    have HSH := Lib.hid hshort
    have HMT := Lib.hid (fun (W : World) (bs : List UInt8) (aS : Option Addr) (k c : Nat) (hW : Below w.heap.size w W) (hbs : HasB W aS bs) (hk : bs.length = k) (hk2 : k ≤ 4096) (hkc : k ≤ c) (hc : c ≤ 9223372036854775807) => match_any W q B a n cap l aS k c bs hn hnb ((hW.block q (Array.getElem?_eq_some_iff.1 hq).1).trans hq) (hp.below (hW.mono hB)) hbs hk (by omega) hkc hc)
    clear hb2 hL hm hshort hq hp hr hb1 HC hn
    obtain ⟨D, hD⟩ : ∃ D, dotS l = D := ⟨_, rfl⟩
    have HKD := Lib.hid hD
    rw [hD]
    clear hD
    go_wp2_with fail
    go_loopw [7, 32] (fun y x wr => ∃ (v : Value) (j : Nat), v = y ∧ x = .int .i64 j ∧ j ≤ m ∧ wr.ownsRow w.heap.size 9 1 v ((L.take j).filter (keepS l)).length (scells ((L.take j).filter (keepS l))) ∧ Below w.heap.size w wr) (fun _ x _ => m - (intOf x).toNat)
    case atStart => exact ⟨_, 0, rfl, rfl, by omega, ⟨rfl, .inl ⟨rfl, rfl⟩⟩, HB2.out⟩
    case round =>
      obtain ⟨v, j, rfl, rfl, hj, hown, hbel⟩ := hrel
      have HO := Lib.hid hown
      have HB3 := Lib.hid hbel
      clear hown hbel HB2
      by_cases hlt : j < m
      · have hjI : (j : Int) < (m : Int) := by omega
        have hj0 : (0 : Int) ≤ (j : Int) := by omega
        have hjl : j < L.length := by rw [HM.out]; exact hlt
        rcases HL.out.below HB3.out with hE | ⟨bN, oN, rfl, hbN, hx⟩
        · rw [hE] at hjl; simp at hjl
        obtain ⟨x, cx, hbx⟩ := cell_str (hx j hjl)
        have hsx : x.size ≤ 4096 := by rw [← bl_len, hbx]; exact HSH.out _ (List.getElem_mem hjl)
        have HTK := Lib.hid (show (L.take (j + 1)).filter (keepS l) = (L.take j).filter (keepS l) ++ (if keepS l (bl x) then [bl x] else []) by
          rw [hbx, List.take_add_one, List.getElem?_eq_getElem hjl, List.filter_append]
          simp only [Option.toList_some, List.filter_cons, List.filter_nil])
        have HKX := Lib.hid (show keepS l (bl x) = ((D || !Lib.hasPrefix (bl x) [46]) && mat l (bl x)) by rw [← HKD.out]; rfl)
        have HHP := Lib.hid (hasprefix_any x ⟨#[46]⟩ wr)
        rw [show bl ⟨#[46]⟩ = [46] from rfl] at HHP
        have hfl : ((L.take j).filter (keepS l)).length ≤ 4096 := by
          have := List.length_filter_le (keepS l) (L.take j)
          rw [List.length_take] at this; omega
        clear hx hbx
        generalize (L.take j).filter (keepS l) = F at *
        generalize keepS l (bl x) = kp at *
        generalize Lib.hasPrefix (bl x) [46] = hpx at *
        obtain ⟨capX, CX, fzX, hcv, hHB, hcX1, hcX2, hbX⟩ := bytes_of wr x (by omega)
        have HMX := Lib.hid (HMT.out _ (bl x) _ x.size capX (HB3.out.trans (hbX.mono HB3.out.size)) hHB (bl_len x) hsx hcX1 hcX2)
        have HBX := Lib.hid (HB3.out.trans (hbX.mono HB3.out.size))
        have HOX := Lib.hid (show ((wr.alloc (.cells CX 5 fzX)).drew).ownsRow w.heap.size 9 1 v F.length (scells F) from by
          obtain ⟨h1, h2⟩ := HO.out
          refine ⟨h1, ?_⟩
          rcases h2 with h2 | ⟨gg, cp, cur, e1, e2, e3, e4⟩
          · exact .inl h2
          · exact .inr ⟨gg, cp, cur, e1, e2, (hbX.block gg (Array.getElem?_eq_some_iff.1 e3).1).trans e3, e4⟩)
        clear hHB hbX
        generalize mat l (bl x) = mt at *
        cases D
        · cases hpx
          · go_wp2_with fail
            refine HHP.out.mono ?_; rintro e w' ⟨rfl, rfl⟩
            go_wp2_with fail
            generalize (wr.alloc (.cells CX 5 fzX)).drew = WX at *
            refine HMX.out.mono ?_; rintro e w3 ⟨rfl, hb3⟩
            have HBN := Lib.hid (HBX.out.trans (hb3.mono HBX.out.size))
            have HON := Lib.hid (show w3.ownsRow w.heap.size 9 1 v F.length (scells F) from by
              obtain ⟨h1, h2⟩ := HOX.out
              refine ⟨h1, ?_⟩
              rcases h2 with h2 | ⟨gg, cp, cur, e1, e2, e3, e4⟩
              · exact .inl h2
              · exact .inr ⟨gg, cp, cur, e1, e2, (hb3.block gg (Array.getElem?_eq_some_iff.1 e3).1).trans e3, e4⟩)
            clear hb3
            cases mt
            · have HKV := Lib.hid (show kp = false by rw [HKX.out]; try rfl)
              go_wp2_with fail
              go_roundw
              case rel => exact ⟨_, j + 1, rfl, by go_num, by omega, by rw [HTK.out, HKV.out]; simpa using HON.out, HBN.out⟩
              case measure => simp [intOf]; omega
            · have HKV := Lib.hid (show kp = true by rw [HKX.out]; try rfl)
              have HOA := Lib.hid (show (w3.alloc (.cells #[.string x] 9)).ownsRow w.heap.size 9 1 v F.length (scells F) from by
                obtain ⟨h1, h2⟩ := HON.out
                refine ⟨h1, ?_⟩
                rcases h2 with h2 | ⟨gg, cp, cur, e1, e2, e3, e4⟩
                · exact .inl h2
                · exact .inr ⟨gg, cp, cur, e1, e2, (((Below.refl _ _).alloc (Nat.le_refl _) _).block gg (Array.getElem?_eq_some_iff.1 e3).1).trans e3, e4⟩)
              have HBA := Lib.hid (HBN.out.alloc HBN.out.size (.cells #[.string x] 9))
              go_wp2_with (at_builtin; refine wpList_append_lies _ rfl (.tmp 48) (.tmp 50) _ rfl w.heap.size 9 i9 _ 1 16 Tryd.underlying45 hi9 hz0 hz1 hz2 rfl (by omega) _ F.length (scells F) rfl HOA.out ⟨w3.heap.size, 0, none⟩ 1 1 [.string x] rfl rfl (fun k u hu => str_new w3 x k u hu) (fun u hu => by simp at hu; subst hu; rfl) (by omega) (by unfold maxLen; omega) (by omega) (by have := HBA.out.size; simpa using this) _ rfl ?_; intro g cap' w' hown hgr _ _; have HO' := Lib.hid hown; have HB' := Lib.hid (HBA.out.grown hgr HBA.out.size (fun k hk => own_block HOA.out hk)); clear hown hgr)
              go_roundw
              case rel =>
                refine ⟨_, j + 1, rfl, by go_num, by omega, ?_, HB'.out⟩
                rw [HTK.out, HKV.out, if_pos rfl, List.length_append, show scells (F ++ [bl x]) = scells F ++ [.string x] by simp [scells, enc_bl, -List.append_assoc] ]
                exact HO'.out
              case measure => simp [intOf]; omega
          · have HKV := Lib.hid (show kp = false by rw [HKX.out]; try rfl)
            have HON := HO
            have HBN := HB3
            go_wp2_with fail
            refine HHP.out.mono ?_; rintro e w' ⟨rfl, rfl⟩
            go_wp2_with fail
            go_roundw
            case rel => exact ⟨_, j + 1, rfl, by go_num, by omega, by rw [HTK.out, HKV.out]; simpa using HON.out, HBN.out⟩
            case measure => simp [intOf]; omega
        · have HKX' := Lib.hid (show kp = mt by rw [HKX.out]; try rfl)
          clear HKX
          have HKX := HKX'
          go_wp2_with fail
          generalize (wr.alloc (.cells CX 5 fzX)).drew = WX at *
          refine HMX.out.mono ?_; rintro e w3 ⟨rfl, hb3⟩
          have HBN := Lib.hid (HBX.out.trans (hb3.mono HBX.out.size))
          have HON := Lib.hid (show w3.ownsRow w.heap.size 9 1 v F.length (scells F) from by
            obtain ⟨h1, h2⟩ := HOX.out
            refine ⟨h1, ?_⟩
            rcases h2 with h2 | ⟨gg, cp, cur, e1, e2, e3, e4⟩
            · exact .inl h2
            · exact .inr ⟨gg, cp, cur, e1, e2, (hb3.block gg (Array.getElem?_eq_some_iff.1 e3).1).trans e3, e4⟩)
          clear hb3
          cases mt
          · have HKV := Lib.hid (show kp = false by rw [HKX.out]; try rfl)
            go_wp2_with fail
            go_roundw
            case rel => exact ⟨_, j + 1, rfl, by go_num, by omega, by rw [HTK.out, HKV.out]; simpa using HON.out, HBN.out⟩
            case measure => simp [intOf]; omega
          · have HKV := Lib.hid (show kp = true by rw [HKX.out]; try rfl)
            have HOA := Lib.hid (show (w3.alloc (.cells #[.string x] 9)).ownsRow w.heap.size 9 1 v F.length (scells F) from by
              obtain ⟨h1, h2⟩ := HON.out
              refine ⟨h1, ?_⟩
              rcases h2 with h2 | ⟨gg, cp, cur, e1, e2, e3, e4⟩
              · exact .inl h2
              · exact .inr ⟨gg, cp, cur, e1, e2, (((Below.refl _ _).alloc (Nat.le_refl _) _).block gg (Array.getElem?_eq_some_iff.1 e3).1).trans e3, e4⟩)
            have HBA := Lib.hid (HBN.out.alloc HBN.out.size (.cells #[.string x] 9))
            go_wp2_with (at_builtin; refine wpList_append_lies _ rfl (.tmp 48) (.tmp 50) _ rfl w.heap.size 9 i9 _ 1 16 Tryd.underlying45 hi9 hz0 hz1 hz2 rfl (by omega) _ F.length (scells F) rfl HOA.out ⟨w3.heap.size, 0, none⟩ 1 1 [.string x] rfl rfl (fun k u hu => str_new w3 x k u hu) (fun u hu => by simp at hu; subst hu; rfl) (by omega) (by unfold maxLen; omega) (by omega) (by have := HBA.out.size; simpa using this) _ rfl ?_; intro g cap' w' hown hgr _ _; have HO' := Lib.hid hown; have HB' := Lib.hid (HBA.out.grown hgr HBA.out.size (fun k hk => own_block HOA.out hk)); clear hown hgr)
            go_roundw
            case rel =>
              refine ⟨_, j + 1, rfl, by go_num, by omega, ?_, HB'.out⟩
              rw [HTK.out, HKV.out, if_pos rfl, List.length_append, show scells (F ++ [bl x]) = scells F ++ [.string x] by simp [scells, enc_bl, -List.append_assoc] ]
              exact HO'.out
            case measure => simp [intOf]; omega
      · have hjI : ¬ (j : Int) < (m : Int) := by omega
        obtain rfl : j = m := by omega
        have HTK := Lib.hid (show L.take j = L by rw [← HM.out, List.take_length])
        have hlf := List.length_filter_le (keepS l) L
        have HSO := Lib.hid (sort_own wr w.heap.size v (L.filter (keepS l)) (by have := HO.out; rw [HTK.out] at this; exact this) HB3.out.size (by rw [HM.out] at hlf; omega))
        have HPU := Lib.hid (sorted_puts (L.filter (keepS l)))
        have hZl : (L.filter (keepS l)).length ≤ 4096 := by rw [HM.out] at hlf; omega
        clear hlf
        obtain ⟨Z, hZ⟩ : ∃ Z, L.filter (keepS l) = Z := ⟨_, rfl⟩
        rw [hZ] at HSO HPU hZl
        have HZE := Lib.hid hZ
        clear hZ
        go_wp2_with fail
        refine HSO.out.mono ?_; rintro e w4 ⟨rfl, ho4, hb4⟩
        have HB4 := Lib.hid (HB3.out.trans hb4)
        have hlen : (Z.mergeSort fun x y => decide (x ≤ y)).length = Z.length := by simp
        have HCO := Lib.hid (compact_own w4 w.heap.size v (Z.mergeSort fun x y => decide (x ≤ y)) (by rw [hlen]; exact ho4) HB4.out.size (by rw [hlen]; exact hZl))
        rw [HPU.out] at HCO
        clear ho4 hb4
        go_wp2_with fail
        refine HCO.out.mono ?_; rintro e w5 ⟨a5, cap5, rfl, h5, hc5, hc5', hb5⟩
        have HB5 := Lib.hid (HB4.out.trans hb5)
        have H5 := Lib.hid h5
        clear h5 hb5
        go_wp2_with fail
        refine (clip_any a5 _ cap5 w5 hc5 (by unfold maxLen at hc5'; omega)).mono ?_; rintro e w' ⟨rfl, rfl⟩
        go_wp2_with fail
        go_ret
        rw [HZE.out]
        exact ⟨a5, _, rfl, rfl, H5.out, by omega, HB5.out⟩
end Go.Proofs.YtafmhhhboihdfaaDoor
