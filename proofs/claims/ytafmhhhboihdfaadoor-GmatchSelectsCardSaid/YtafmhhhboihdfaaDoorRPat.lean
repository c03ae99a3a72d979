/-
  The document's answer: the pieces of a pattern. Conditions: those that each theorem names. Printed by gen_rpat.py.
-/
import Derived.Test.YtafmhhhboihdfaaDoorRBracket
namespace Go.Proofs.YtafmhhhboihdfaaDoor
open Go.RowKit
set_option linter.unusedVariables false
attribute [local go_sem ↓] Go.wp_at_zero Go.wp_at_succ
/-- the document's pieces as Pattern makes them: the fault's block, the row of the pieces -/
structure PrW (w W : World) (v : Value) (l : List Pc) : Prop where
  f : FAt W w.heap.size 0 0 0
  o : W.ownsRow (w.heap.size + 1) 70 5 v l.length (pcells l)
  b : Below w.heap.size w W
section
variable {w W W' : World} {v : Value} {l : List Pc}
theorem PrW.lt (h : PrW w W v l) : w.heap.size < W.heap.size := h.f.lt
theorem PrW.below (h : PrW w W v l) (g : Below W.heap.size W W') : PrW w W' v l := by
  refine ⟨h.f.below g h.f.lt, ?_, h.b.trans (g.mono h.b.size)⟩
  obtain ⟨h1, h2⟩ := h.o
  refine ⟨h1, ?_⟩
  rcases h2 with h2 | ⟨gg, cap, cur, e1, e2, e3, e4⟩
  · exact .inl h2
  · exact .inr ⟨gg, cap, cur, e1, e2, (g.block gg (Array.getElem?_eq_some_iff.1 e3).1).trans e3, e4⟩
theorem PrW.alloc (h : PrW w W v l) (o : Obj) : PrW w (W.alloc o) v l := h.below ((Below.refl _ _).alloc (Nat.le_refl _) _)
theorem PrW.start (w : World) : PrW w (w.alloc (.cells #[.int .i64 0, .int .i64 0, .int .i64 0] 38)) (.slice none 0 0) [] :=
  ⟨heap_alloc_new _ _, ⟨rfl, .inl ⟨rfl, rfl⟩⟩, (Below.refl _ _).alloc (Nat.le_refl _) _⟩
/-- behind the append -/
theorem PrW.grow (h : PrW w W v l) {v' : Value} {p : Pc} (ho : W'.ownsRow (w.heap.size + 1) 70 5 v' (l.length + 1) (pcells l ++ pc5 p)) (g : W.grownBy W' v.ownBlock) : PrW w W' v' (l ++ [p]) := by
  have hne : ∀ k, v.ownBlock = some k → w.heap.size + 1 ≤ k := by
    intro k hk
    rcases h.o.2 with ⟨e, -⟩ | ⟨gg, cap, cur, e1, e2, -⟩
    · rw [e] at hk; cases hk
    · rw [e1] at hk; have : gg = k := by simpa [Value.ownBlock] using hk
      omega
  refine ⟨h.f.kept g (fun e => by have := hne _ e; omega), ?_, h.b.grown g h.b.size (fun k hk => by have := hne k hk; omega)⟩
  have e0 : pcells (l ++ [p]) = pcells l ++ pc5 p := by simp [pcells]
  rw [e0, List.length_append, List.length_singleton]
  exact ho
/-- behind the loop: the pieces as they are read -/
theorem PrW.out (h : PrW w W v l) : ∃ a cap, v = .slice a l.length cap ∧ HasP W W.heap.size a l ∧ l.length ≤ cap ∧ cap ≤ maxLen ∧ ∀ g o, a = some ⟨g, o, none⟩ → 0 < l.length → w.heap.size < g := by
  rcases h.o.2 with ⟨e1, e2⟩ | ⟨gg, cap, cur, e1, e2, e3, e4, e5, e6, e7⟩
  · have : l = [] := List.length_eq_zero_iff.1 e2
    subst this
    exact ⟨none, 0, e1, .inl rfl, Nat.le_refl _, by unfold maxLen; omega, fun g o e => by cases e⟩
  · refine ⟨some ⟨gg, 0, none⟩, cap, e1, HasP.mk (Array.getElem?_eq_some_iff.1 e3).1 (Nat.le_refl _) fun i k hi hk => ?_, e4, e5, fun g' o' e _ => by cases e; omega⟩
    rw [Nat.zero_add, cell_of_heap e3, ← pcells_at l i k hi hk, ← e7]
    rw [List.getElem?_take, if_pos (by omega), Array.getElem?_toList]
end
theorem rone_any (c : UInt8) (W : World) : Calls Tryd.prog 36 #[.agg #[.int .u64 0, .int .u64 0, .int .u64 0, .int .u64 0], .int .u8 (iv c)] W fun e w' => e = .returned (.agg #[.int .u64 (wd (bit c.toNat) 0), .int .u64 (wd (bit c.toNat) 1), .int .u64 (wd (bit c.toNat) 2), .int .u64 (wd (bit c.toNat) 3)]) ∧ Below W.heap.size W w' := by
  have h := radd_any 0 c.toNat W (by have := c.toNat_lt; omega)
  have e : ∀ i, wd 0 i = 0 := fun i => by unfold wd; simp
  unfold setV wv at h
  rw [show (0 : BitVec 256) ||| bit c.toNat = bit c.toNat by simp, e, e, e, e] at h
  exact h
set_option maxRecDepth 100000 in
theorem rpat_long (w : World) (a : Option Addr) (m cap : Nat) (hm : 256 < m) (ms : m ≤ cap) (cs : cap ≤ 9223372036854775807) :
    Calls Tryd.prog 20 #[.slice a m cap] w fun e w' => e = .returned (.tuple #[.slice none 0 0, .agg #[.int .i64 2, .int .i64 0, .int .i64 2]]) ∧ Below w.heap.size w w' := by
  have hI : (256 : Int) < (m : Int) := by omega
  have HF := Lib.hid (show FAt (w.alloc (.cells #[.int .i64 0, .int .i64 0, .int .i64 0] 38)) w.heap.size 0 0 0 from heap_alloc_new _ _)
  have HB := Lib.hid (show Below w.heap.size w (w.alloc (.cells #[.int .i64 0, .int .i64 0, .int .i64 0] 38)) from (Below.refl _ _).alloc (Nat.le_refl _) _)
  go_enter Tryd.func20, Tryd.ntmps20
  go_wp2_with fail
  generalize w.alloc (.cells #[.int .i64 0, .int .i64 0, .int .i64 0] 38) = W at *
  refine (rf_any 2 0 2 W).mono ?_; rintro e w1 ⟨rfl, b1⟩
  have HF1 := Lib.hid (HF.out.below b1 HF.out.lt)
  have HB1 := Lib.hid (HB.out.trans (b1.mono HB.out.size))
  clear b1
  obtain ⟨f0, f1, f2, ff0, ff1, ff2⟩ := HF1.out.cells
  go_wp2_with fail
  have HP := Lib.hid (putF_at HF1.out 2 0 2)
  have HG := Lib.hid (putF_grown w1 w.heap.size 2 0 2)
  change bodyPost _ _ _ _ _ (putF w1 w.heap.size 2 0 2)
  generalize putF w1 w.heap.size 2 0 2 = W2 at *
  obtain ⟨g0, g1, g2, -⟩ := HP.out.cells
  refine bodyPost_ret (v := .tuple #[.slice none 0 0, .agg #[.int .i64 2, .int .i64 0, .int .i64 2]]) (by simp [results, Tryd.results20, go_sem, g0, g1, g2]) rfl ?_
  exact ⟨rfl, HB1.out.grown HG.out HB1.out.size (fun k hk => by have := Option.some.inj hk; omega)⟩
set_option maxRecDepth 100000 in
set_option maxHeartbeats 8000000 in
theorem rpat_any (w : World) (a : Option Addr) (m cap : Nat) (l : List UInt8) (hb : HasB w a l) (hm : l.length = m) (ms : m ≤ cap) (cs : cap ≤ 9223372036854775807) (mb : m ≤ 256) :
    Calls Tryd.prog 20 #[.slice a m cap] w fun e w' => ∃ A C, e = .returned (.tuple #[.slice A (parseS l).length C, .agg #[.int .i64 0, .int .i64 0, .int .i64 0]]) ∧ HasP w' w'.heap.size A (parseS l) ∧ (parseS l).length ≤ C ∧ C ≤ maxLen ∧ Below w.heap.size w w' := by
  obtain ⟨i0, hi0, hz0, hz1, hz2⟩ := info_parts info70
  have hI : ¬ (256 : Int) < (m : Int) := by omega
  have HP := Lib.hid (PrW.start w)
  have HBW := Lib.hid hb
  have HM := Lib.hid hm
  have HBR := Lib.hid (fun (W : World) (p : Nat) (hW : Below w.heap.size w W) (hp : p ≤ m) => rbracket_any W a m cap p l (hb.below hW) hm ms cs mb hp)
  clear hb hm
  go_enter Tryd.func20, Tryd.ntmps20
  go_wp2_with fail
  generalize w.alloc (.cells #[.int .i64 0, .int .i64 0, .int .i64 0] 38) = W0 at *
  go_loopw [4, 5] (fun y x wr => ∃ (v : Value) (i : Nat) (done : List Pc), y = v ∧ x = .int .i64 i ∧ i ≤ m ∧ done.length ≤ i ∧ LeftP l done i ∧ PrW w wr v done) (fun _ x _ => m - (intOf x).toNat)
  case atStart => exact ⟨_, 0, [], rfl, rfl, Nat.zero_le _, Nat.le_refl _, rfl, HP.out⟩
  case round =>
    obtain ⟨v, i, done, rfl, rfl, hi, hdl, hleft, hw⟩ := hrel
    have HW := Lib.hid hw
    have HL := Lib.hid hleft
    clear hw hleft HP
    by_cases him : i < m
    · have hI1 : (i : Int) < (m : Int) := by omega
      have hI0 : (0 : Int) ≤ (i : Int) := by omega
      obtain ⟨c, t, hd⟩ := drop_some (l := l) (q := i) (by rw [HM.out]; exact him)
      have hil := (drop_lt c t hd).1
      obtain ⟨b, off, rfl, hbl, hbc⟩ := hasB_at HBW.out i hil
      have HBL := Lib.hid hbl
      have HBC := Lib.hid hbc
      have hc0 : wr.cell? ⟨b, off + i, none⟩ = some (.int .u8 (iv c)) := by
        rw [← drop_get hd hil]
        exact (HW.out.b.cell (p := ⟨b, off + i, none⟩) hbl).trans (hbc i hil)
      have HC := Lib.hid hd
      clear hd hbl hbc hil
      by_cases h42 : c = 42
      · subst h42
        rw [show iv 42 = 42 from rfl] at hc0
        have HN := Lib.hid (left_star HL.out HC.out)
        go_wp2_with (at_builtin; refine wpList_append_lies _ rfl (.tmp 27) (.tmp 29) _ rfl (w.heap.size + 1) 70 i0 _ 5 40 Tryd.underlying26 hi0 hz0 hz1 hz2 rfl (by omega) _ done.length (pcells done) rfl (HW.out.alloc _).o ⟨wr.heap.size, 0, none⟩ 1 1 (pc5 starP) rfl rfl (fun j u hu => news_lit wr 3 j u hu) (pc5_one _) (by omega) (by unfold maxLen; omega) (by omega) (by have := HW.out.lt; simp; omega) _ rfl ?_; intro g cap' w' hown hgr _ _; have HW' := Lib.hid ((HW.out.alloc (.cells #[.int .i64 3, .int .u64 0, .int .u64 0, .int .u64 0, .int .u64 0] 70)).grow (p := starP) hown hgr); clear hown hgr)
        go_roundw
        case rel => exact ⟨_, i + 1, done ++ [starP], rfl, rfl, by omega, by simp; omega, HN.out, HW'.out⟩
        case measure => simp [intOf]; omega
      by_cases h63 : c = 63
      · subst h63
        rw [show iv 63 = 63 from rfl] at hc0
        clear h42
        have HN := Lib.hid (left_any HL.out HC.out)
        go_wp2_with (at_builtin; refine wpList_append_lies _ rfl (.tmp 34) (.tmp 36) _ rfl (w.heap.size + 1) 70 i0 _ 5 40 Tryd.underlying26 hi0 hz0 hz1 hz2 rfl (by omega) _ done.length (pcells done) rfl (HW.out.alloc _).o ⟨wr.heap.size, 0, none⟩ 1 1 (pc5 anyP) rfl rfl (fun j u hu => news_lit wr 2 j u hu) (pc5_one _) (by omega) (by unfold maxLen; omega) (by omega) (by have := HW.out.lt; simp; omega) _ rfl ?_; intro g cap' w' hown hgr _ _; have HW' := Lib.hid ((HW.out.alloc (.cells #[.int .i64 2, .int .u64 0, .int .u64 0, .int .u64 0, .int .u64 0] 70)).grow (p := anyP) hown hgr); clear hown hgr)
        go_roundw
        case rel => exact ⟨_, i + 1, done ++ [anyP], rfl, rfl, by omega, by simp; omega, HN.out, HW'.out⟩
        case measure => simp [intOf]; omega
      by_cases h91 : c = 91
      · subst h91
        rw [show iv 91 = 91 from rfl] at hc0
        clear h42 h63
        have hdk := (drop_lt _ _ HC.out).2.2
        obtain ⟨k, hk⟩ : ∃ k : Nat, k = i + 1 := ⟨_, rfl⟩
        rw [← hk] at hdk
        have hpk : (i : Int) + 1 = (k : Int) := by omega
        have hCB := HBR.out wr k HW.out.b (by omega)
        rw [hdk] at hCB
        have HCB := Lib.hid hCB
        have HK := Lib.hid hk
        clear hCB hdk hk HBR
        cases hbr : brS t with
        | none =>
          have HN := Lib.hid (left_open HL.out HC.out hbr)
          rw [hbr] at HCB
          clear hbr
          go_wp2_with fail
          refine HCB.out.mono ?_; rintro e w4 ⟨⟨fc, ps, hfc, rfl⟩, b4⟩
          obtain ⟨Z, hZ⟩ : ∃ Z : BitVec 256, 0 = Z := ⟨_, rfl⟩
          rw [hZ]
          clear hZ HCB
          have hfc' : (fc == 0) = false := by simpa using hfc
          have H4 := Lib.hid (((HW.out.below b4).alloc (.cells #[.int .u64 (wd Z 0), .int .u64 (wd Z 1), .int .u64 (wd Z 2), .int .u64 (wd Z 3)] 68)).alloc (.cells #[.int .i64 fc, .int .i64 ps, .int .i64 2] 38))
          have HFA := Lib.hid (show FAt ((w4.alloc (.cells #[.int .u64 (wd Z 0), .int .u64 (wd Z 1), .int .u64 (wd Z 2), .int .u64 (wd Z 3)] 68)).alloc (.cells #[.int .i64 fc, .int .i64 ps, .int .i64 2] 38)) (w4.heap.size + 1) fc ps 2 by
            have := heap_alloc_new (w4.alloc (.cells #[.int .u64 (wd Z 0), .int .u64 (wd Z 1), .int .u64 (wd Z 2), .int .u64 (wd Z 3)] 68)) (.cells #[.int .i64 fc, .int .i64 ps, .int .i64 2] 38)
            rw [show (w4.alloc (.cells #[.int .u64 (wd Z 0), .int .u64 (wd Z 1), .int .u64 (wd Z 2), .int .u64 (wd Z 3)] 68)).heap.size = w4.heap.size + 1 by simp] at this
            exact this)
          clear hfc b4
          unfold setV wv
          go_upto_region 14 with fail
          generalize (w4.alloc (.cells #[.int .u64 (wd Z 0), .int .u64 (wd Z 1), .int .u64 (wd Z 2), .int .u64 (wd Z 3)] 68)).alloc (.cells #[.int .i64 fc, .int .i64 ps, .int .i64 2] 38) = W6 at *
          generalize w4.heap.size = Y at *
          obtain ⟨f0, f1, f2, -⟩ := HFA.out.cells
          have HO := Lib.hid (fun W => rone_any (91 : UInt8) W)
          unfold oneP at HN
          generalize bit ((91 : UInt8)).toNat = S at *
          go_wp2_with fail
          refine (HO.out _).mono ?_; rintro e w5 ⟨rfl, b5⟩
          have H5 := Lib.hid (H4.out.below b5)
          clear b5 HO
          go_wp2_with (at_builtin; refine wpList_append_lies _ rfl (.tmp 75) (.tmp 80) _ rfl (w.heap.size + 1) 70 i0 _ 5 40 Tryd.underlying26 hi0 hz0 hz1 hz2 rfl (by omega) _ done.length (pcells done) rfl (H5.out.alloc _).o ⟨w5.heap.size, 0, none⟩ 1 1 (pc5 ⟨1, S⟩) rfl rfl (fun j u hu => news_at w5 ⟨1, S⟩ j u hu) (pc5_one _) (by omega) (by unfold maxLen; omega) (by omega) (by have := H5.out.lt; simp; omega) _ rfl ?_; intro g cap' w' hown hgr _ _; have HW' := Lib.hid ((H5.out.alloc (.cells #[.int .i64 1, .int .u64 (wd S 0), .int .u64 (wd S 1), .int .u64 (wd S 2), .int .u64 (wd S 3)] 70)).grow (p := ⟨1, S⟩) hown hgr); clear hown hgr)
          go_roundw
          case rel => exact ⟨_, i + 1, done ++ [⟨1, S⟩], rfl, congrArg (Value.int .i64) (by omega), by omega, by simp; omega, HN.out, HW'.out⟩
          case measure => simp [intOf]; omega
        | some r =>
          obtain ⟨S, n⟩ := r
          have hn := br_k hbr
          have hnt : n ≤ t.length := hn.2
          have hn1 : 1 ≤ n := hn.1
          have htl := (drop_lt _ _ HC.out).2.1
          rw [HM.out] at htl
          obtain ⟨z, hz⟩ : ∃ z : Nat, z = i + 1 + n := ⟨_, rfl⟩
          have HN := Lib.hid (hz ▸ left_set HL.out HC.out hbr)
          rw [hbr] at HCB
          have hzk : k + n = z := by rw [hz, HK.out]
          have hzm : z ≤ m := by omega
          have hzi : i < z := by omega
          have HZ := Lib.hid hz
          clear hbr hn hnt hn1 htl hz
          go_wp2_with fail
          refine HCB.out.mono ?_; rintro e w4 ⟨he, b4⟩
          obtain rfl : e = .returned (.tuple #[setV S, .int .i64 (z : Int), .agg #[.int .i64 0, .int .i64 0, .int .i64 0]]) := by rw [← hzk]; exact he
          clear he hzk HCB
          have H4 := Lib.hid (((HW.out.below b4).alloc (.cells #[.int .u64 (wd S 0), .int .u64 (wd S 1), .int .u64 (wd S 2), .int .u64 (wd S 3)] 68)).alloc (.cells #[.int .i64 0, .int .i64 0, .int .i64 0] 38))
          have HFA := Lib.hid (show FAt ((w4.alloc (.cells #[.int .u64 (wd S 0), .int .u64 (wd S 1), .int .u64 (wd S 2), .int .u64 (wd S 3)] 68)).alloc (.cells #[.int .i64 0, .int .i64 0, .int .i64 0] 38)) (w4.heap.size + 1) 0 0 0 by
            have := heap_alloc_new (w4.alloc (.cells #[.int .u64 (wd S 0), .int .u64 (wd S 1), .int .u64 (wd S 2), .int .u64 (wd S 3)] 68)) (.cells #[.int .i64 0, .int .i64 0, .int .i64 0] 38)
            rw [show (w4.alloc (.cells #[.int .u64 (wd S 0), .int .u64 (wd S 1), .int .u64 (wd S 2), .int .u64 (wd S 3)] 68)).heap.size = w4.heap.size + 1 by simp] at this
            exact this)
          have HSA := Lib.hid (show SetAt ((w4.alloc (.cells #[.int .u64 (wd S 0), .int .u64 (wd S 1), .int .u64 (wd S 2), .int .u64 (wd S 3)] 68)).alloc (.cells #[.int .i64 0, .int .i64 0, .int .i64 0] 38)) w4.heap.size S by
            have h : SetAt (w4.alloc (.cells #[.int .u64 (wd S 0), .int .u64 (wd S 1), .int .u64 (wd S 2), .int .u64 (wd S 3)] 68)) w4.heap.size S := heap_alloc_new _ _
            exact h.kept (alloc_grown _ _ none) (by simp))
          clear b4
          unfold setV wv
          go_upto_region 14 with fail
          generalize (w4.alloc (.cells #[.int .u64 (wd S 0), .int .u64 (wd S 1), .int .u64 (wd S 2), .int .u64 (wd S 3)] 68)).alloc (.cells #[.int .i64 0, .int .i64 0, .int .i64 0] 38) = W6 at *
          generalize w4.heap.size = Y at *
          obtain ⟨f0, f1, f2, -⟩ := HFA.out.cells
          obtain ⟨s0, s1, s2, s3, -⟩ := HSA.out.cells
          have hzw : wrap64 ((z : Int) - 1 + 1) = z := by unfold wrap64; omega
          go_wp2_with (at_builtin; refine wpList_append_lies _ rfl (.tmp 52) (.tmp 55) _ rfl (w.heap.size + 1) 70 i0 _ 5 40 Tryd.underlying26 hi0 hz0 hz1 hz2 rfl (by omega) _ done.length (pcells done) rfl (H4.out.alloc _).o ⟨W6.heap.size, 0, none⟩ 1 1 (pc5 ⟨1, S⟩) rfl rfl (fun j u hu => news_at W6 ⟨1, S⟩ j u hu) (pc5_one _) (by omega) (by unfold maxLen; omega) (by omega) (by have := H4.out.lt; simp; omega) _ rfl ?_; intro g cap' w' hown hgr _ _; have HW' := Lib.hid ((H4.out.alloc (.cells #[.int .i64 1, .int .u64 (wd S 0), .int .u64 (wd S 1), .int .u64 (wd S 2), .int .u64 (wd S 3)] 70)).grow (p := ⟨1, S⟩) hown hgr); clear hown hgr)
          go_roundw
          case rel => exact ⟨_, z, done ++ [⟨1, S⟩], rfl, congrArg (Value.int .i64) (by omega), hzm, by simp; omega, HN.out, HW'.out⟩
          case measure => simp [intOf]; omega
      by_cases h92 : c = 92
      · subst h92
        rw [show iv 92 = 92 from rfl] at hc0
        clear h42 h63 h91 HBR
        cases t with
        | nil =>
          have HN := Lib.hid (left_end HL.out HC.out)
          have hmi : i + 1 = m := by have := (drop_lt _ _ HC.out).2.1; rw [HM.out] at this; simp at this; omega
          have hJ : ¬ ((i : Int) + 1 < (m : Int)) := by omega
          have HO := Lib.hid (fun W => rone_any (92 : UInt8) W)
          unfold oneP at HN
          generalize bit ((92 : UInt8)).toNat = S at *
          go_wp2_with fail
          refine (HO.out _).mono ?_; rintro e w5 ⟨rfl, b5⟩
          have H5 := Lib.hid (HW.out.below b5)
          clear b5 HO
          go_wp2_with (at_builtin; refine wpList_append_lies _ rfl (.tmp 75) (.tmp 80) _ rfl (w.heap.size + 1) 70 i0 _ 5 40 Tryd.underlying26 hi0 hz0 hz1 hz2 rfl (by omega) _ done.length (pcells done) rfl (H5.out.alloc _).o ⟨w5.heap.size, 0, none⟩ 1 1 (pc5 ⟨1, S⟩) rfl rfl (fun j u hu => news_at w5 ⟨1, S⟩ j u hu) (pc5_one _) (by omega) (by unfold maxLen; omega) (by omega) (by have := H5.out.lt; simp; omega) _ rfl ?_; intro g cap' w' hown hgr _ _; have HW' := Lib.hid ((H5.out.alloc (.cells #[.int .i64 1, .int .u64 (wd S 0), .int .u64 (wd S 1), .int .u64 (wd S 2), .int .u64 (wd S 3)] 70)).grow (p := ⟨1, S⟩) hown hgr); clear hown hgr)
          go_roundw
          case rel => exact ⟨_, i + 1, done ++ [⟨1, S⟩], rfl, rfl, by omega, by simp; omega, HN.out, HW'.out⟩
          case measure => simp [intOf]; omega
        | cons d u =>
          have HN := Lib.hid (left_esc HL.out HC.out)
          have hdk := (drop_lt _ _ HC.out).2.2
          obtain ⟨k, hk⟩ : ∃ k : Nat, k = i + 1 := ⟨_, rfl⟩
          rw [← hk] at hdk
          have hkl := (drop_lt _ _ hdk).1
          have hkm : k < m := by rw [HM.out] at hkl; exact hkl
          have hpk : (i : Int) + 1 = (k : Int) := by omega
          have hJ : (k : Int) < (m : Int) := by omega
          have hJ0 : (0 : Int) ≤ (k : Int) := by omega
          have hc1 : wr.cell? ⟨b, off + k, none⟩ = some (.int .u8 (iv d)) := by
            have := HBC.out k hkl
            rw [drop_get hdk hkl] at this
            exact (HW.out.b.cell (p := ⟨b, off + k, none⟩) HBL.out).trans this
          have HK := Lib.hid hk
          clear hdk hk hkl
          have HO := Lib.hid (fun W => rone_any d W)
          unfold oneP at HN
          generalize bit (d).toNat = S at *
          go_wp2_with fail
          refine (HO.out _).mono ?_; rintro e w5 ⟨rfl, b5⟩
          have H5 := Lib.hid (HW.out.below b5)
          clear b5 HO
          go_wp2_with (at_builtin; refine wpList_append_lies _ rfl (.tmp 75) (.tmp 80) _ rfl (w.heap.size + 1) 70 i0 _ 5 40 Tryd.underlying26 hi0 hz0 hz1 hz2 rfl (by omega) _ done.length (pcells done) rfl (H5.out.alloc _).o ⟨w5.heap.size, 0, none⟩ 1 1 (pc5 ⟨1, S⟩) rfl rfl (fun j u hu => news_at w5 ⟨1, S⟩ j u hu) (pc5_one _) (by omega) (by unfold maxLen; omega) (by omega) (by have := H5.out.lt; simp; omega) _ rfl ?_; intro g cap' w' hown hgr _ _; have HW' := Lib.hid ((H5.out.alloc (.cells #[.int .i64 1, .int .u64 (wd S 0), .int .u64 (wd S 1), .int .u64 (wd S 2), .int .u64 (wd S 3)] 70)).grow (p := ⟨1, S⟩) hown hgr); clear hown hgr)
          go_roundw
          case rel => exact ⟨_, i + 2, done ++ [⟨1, S⟩], rfl, congrArg (Value.int .i64) (by have := HK.out; omega), by omega, by simp; omega, HN.out, HW'.out⟩
          case measure => simp [intOf]; omega
      · have HN := Lib.hid (left_byte HL.out HC.out h42 h63 h91 h92)
        have x1 : (iv c == 42) = false := by simpa using (fun e => h42 (iv_inj (b := 42) e) : ¬ iv c = 42)
        have x2 : (iv c == 63) = false := by simpa using (fun e => h63 (iv_inj (b := 63) e) : ¬ iv c = 63)
        have x3 : (iv c == 91) = false := by simpa using (fun e => h91 (iv_inj (b := 91) e) : ¬ iv c = 91)
        have x4 : (iv c == 92) = false := by simpa using (fun e => h92 (iv_inj (b := 92) e) : ¬ iv c = 92)
        clear h42 h63 h91 h92 HBR
        have HO := Lib.hid (fun W => rone_any c W)
        unfold oneP at HN
        generalize bit (c).toNat = S at *
        go_wp2_with fail
        refine (HO.out _).mono ?_; rintro e w5 ⟨rfl, b5⟩
        have H5 := Lib.hid (HW.out.below b5)
        clear b5 HO
        go_wp2_with (at_builtin; refine wpList_append_lies _ rfl (.tmp 75) (.tmp 80) _ rfl (w.heap.size + 1) 70 i0 _ 5 40 Tryd.underlying26 hi0 hz0 hz1 hz2 rfl (by omega) _ done.length (pcells done) rfl (H5.out.alloc _).o ⟨w5.heap.size, 0, none⟩ 1 1 (pc5 ⟨1, S⟩) rfl rfl (fun j u hu => news_at w5 ⟨1, S⟩ j u hu) (pc5_one _) (by omega) (by unfold maxLen; omega) (by omega) (by have := H5.out.lt; simp; omega) _ rfl ?_; intro g cap' w' hown hgr _ _; have HW' := Lib.hid ((H5.out.alloc (.cells #[.int .i64 1, .int .u64 (wd S 0), .int .u64 (wd S 1), .int .u64 (wd S 2), .int .u64 (wd S 3)] 70)).grow (p := ⟨1, S⟩) hown hgr); clear hown hgr)
        go_roundw
        case rel => exact ⟨_, i + 1, done ++ [⟨1, S⟩], rfl, rfl, by omega, by simp; omega, HN.out, HW'.out⟩
        case measure => simp [intOf]; omega
    · have hI1 : ¬ (i : Int) < (m : Int) := by omega
      obtain rfl : i = m := by omega
      have HE := Lib.hid (show parseS l = done by
        have h1 := HL.out
        unfold LeftP at h1
        rw [h1, List.drop_eq_nil_of_le (by rw [HM.out]; exact Nat.le_refl _), parseS, List.append_nil])
      obtain ⟨A, C, rfl, hA, hC1, hC2, hC3⟩ := HW.out.out
      have HQ' := Lib.hid hC3
      have HA := Lib.hid (And.intro hA (And.intro hC1 hC2))
      clear hA hC1 hC2 hC3
      obtain ⟨f0, f1, f2, ff0, ff1, ff2⟩ := HW.out.f.cells
      have HQ := Lib.hid (putF_at HW.out.f 0 0 0)
      have HG := Lib.hid (putF_grown wr w.heap.size 0 0 0)
      go_wp2_with fail
      change bodyPost _ _ _ _ _ (putF wr w.heap.size 0 0 0)
      have HA2 := Lib.hid (show HasP (putF wr w.heap.size 0 0 0) (putF wr w.heap.size 0 0 0).heap.size A done from by
        rcases HA.out.1 with hE | ⟨gb, go, e1, e2, e3, e4⟩
        · exact .inl hE
        · refine .inr ⟨gb, go, e1, Nat.lt_of_lt_of_le e2 HG.out.size, Nat.le_refl _, fun i hi => ?_⟩
          have hne : gb ≠ w.heap.size := fun e => by
            have := HQ'.out gb go e1 (by have := List.length_pos_of_mem (List.getElem_mem hi); exact this)
            omega
          have hq : ∀ o, (putF wr w.heap.size 0 0 0).cell? ⟨gb, o, none⟩ = wr.cell? ⟨gb, o, none⟩ := fun o => World.cell?_of_block (a := ⟨gb, o, none⟩) (HG.out.block gb e2 (fun e => hne (Option.some.inj e)))
          simpa only [hq] using e4 i hi)
      generalize putF wr w.heap.size 0 0 0 = W2 at *
      obtain ⟨g0, g1, g2, -⟩ := HQ.out.cells
      refine bodyPost_ret (v := .tuple #[.slice A done.length C, .agg #[.int .i64 0, .int .i64 0, .int .i64 0]]) (by simp [results, Tryd.results20, go_sem, g0, g1, g2]) rfl ?_
      rw [HE.out]
      exact ⟨A, C, rfl, HA2.out, HA.out.2.1, HA.out.2.2, HW.out.b.grown HG.out HW.out.b.size (fun k hk => by have := Option.some.inj hk; omega)⟩
end Go.Proofs.YtafmhhhboihdfaaDoor
