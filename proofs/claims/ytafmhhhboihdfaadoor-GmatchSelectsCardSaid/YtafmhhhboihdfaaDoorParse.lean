/-
  glob.Parse. Conditions: those that each theorem names.
-/
import Derived.Test.YtafmhhhboihdfaaDoorBracket
import Derived.Test.YtafmhhhboihdfaaDoorOwn
import Derived.Deep.RegionLaw
namespace Go.Proofs.YtafmhhhboihdfaaDoor
open Go.RowKit
set_option linter.unusedVariables false
attribute [local go_sem ↓] Go.wp_at_zero Go.wp_at_succ
/-- the parse of what is left -/
def LeftP (l : List UInt8) (done : List Pc) (i : Nat) : Prop := parseS l = done ++ parseS (l.drop i)
theorem news_lit (W : World) (k : Int) (j : Nat) (u : Value) (h : (pc5 ⟨k, 0⟩)[j]? = some u) : (W.alloc (.cells #[.int .i64 k, .int .u64 0, .int .u64 0, .int .u64 0, .int .u64 0] 70)).cell? ((⟨W.heap.size, 0, none⟩ : Addr).add j) = some u := by
  have e : ∀ i, wd 0 i = 0 := fun i => by unfold wd; simp
  have h1 := news_at W ⟨k, 0⟩ j u h
  simp only [e] at h1
  exact h1
theorem left_star {l t : List UInt8} {done : List Pc} {i : Nat} (h : LeftP l done i) (hd : l.drop i = 42 :: t) : LeftP l (done ++ [starP]) (i + 1) := by
  unfold LeftP at *
  rw [h, hd, parse_cons, if_pos rfl, (drop_lt _ _ hd).2.2]; simp
theorem left_any {l t : List UInt8} {done : List Pc} {i : Nat} (h : LeftP l done i) (hd : l.drop i = 63 :: t) : LeftP l (done ++ [anyP]) (i + 1) := by
  unfold LeftP at *
  rw [h, hd, parse_cons, if_neg (by decide), if_pos rfl, (drop_lt _ _ hd).2.2]; simp
theorem left_set {l t : List UInt8} {done : List Pc} {i : Nat} {S : BitVec 256} {n : Nat} (h : LeftP l done i) (hd : l.drop i = 91 :: t) (hb : brS t = some (S, n)) : LeftP l (done ++ [⟨1, S⟩]) (i + 1 + n) := by
  unfold LeftP at *
  rw [h, hd, parse_cons, if_neg (by decide), if_neg (by decide), if_pos rfl, hb, ← (drop_lt _ _ hd).2.2]; simp
theorem left_open {l t : List UInt8} {done : List Pc} {i : Nat} (h : LeftP l done i) (hd : l.drop i = 91 :: t) (hb : brS t = none) : LeftP l (done ++ [oneP 91]) (i + 1) := by
  unfold LeftP at *
  rw [h, hd, parse_cons, if_neg (by decide), if_neg (by decide), if_pos rfl, hb, ← (drop_lt _ _ hd).2.2]; simp
theorem left_esc {l u : List UInt8} {d : UInt8} {done : List Pc} {i : Nat} (h : LeftP l done i) (hd : l.drop i = 92 :: d :: u) : LeftP l (done ++ [oneP d]) (i + 2) := by
  unfold LeftP at *
  have e : l.drop (i + 2) = u := by rw [show l.drop (i + 2) = (l.drop i).drop 2 by rw [List.drop_drop], hd]; rfl
  rw [h, hd, parse_cons, if_neg (by decide), if_neg (by decide), if_neg (by decide), if_pos rfl, e]; simp
theorem left_end {l : List UInt8} {done : List Pc} {i : Nat} (h : LeftP l done i) (hd : l.drop i = [92]) : LeftP l (done ++ [oneP 92]) (i + 1) := by
  unfold LeftP at *
  rw [h, hd, parse_cons, if_neg (by decide), if_neg (by decide), if_neg (by decide), if_pos rfl, (drop_lt _ _ hd).2.2, parseS]; simp
theorem left_byte {l t : List UInt8} {c : UInt8} {done : List Pc} {i : Nat} (h : LeftP l done i) (hd : l.drop i = c :: t) (h1 : c ≠ 42) (h2 : c ≠ 63) (h3 : c ≠ 91) (h4 : c ≠ 92) : LeftP l (done ++ [oneP c]) (i + 1) := by
  unfold LeftP at *
  rw [h, hd, parse_cons, if_neg h1, if_neg h2, if_neg h3, if_neg h4, (drop_lt _ _ hd).2.2]; simp
theorem PtW.apart {w W W' : World} {v : Value} {l : List Pc} (h : PtW w W v l) {Y : Nat} {S : BitVec 256} (hy : SetAt W Y S) (g : W.grownBy W' v.ownBlock) : SetAt W' Y S := by
  refine hy.kept g ?_
  rcases h.o.2 with ⟨e, -⟩ | ⟨gg, cap, cur, e1, e2, e3, -⟩
  · rw [e]; intro h; cases h
  · rw [e1]
    intro he
    have : gg = Y := by simpa [Value.ownBlock] using he
    subst this
    unfold SetAt at hy
    rw [e3] at hy
    injection hy with hy
    injection hy with _ ht
    exact absurd ht (by decide)
theorem SetAt.s4 {W : World} {Y : Nat} {S : BitVec 256} (h : SetAt W Y S) : W.cell? ⟨Y, 0, none⟩ = some (.int .u64 (wd S 0)) ∧ W.cell? ⟨Y, 1, none⟩ = some (.int .u64 (wd S 1)) ∧ W.cell? ⟨Y, 2, none⟩ = some (.int .u64 (wd S 2)) ∧ W.cell? ⟨Y, 3, none⟩ = some (.int .u64 (wd S 3)) := by
  obtain ⟨x0, x1, x2, x3, -⟩ := h.cells
  exact ⟨x0, x1, x2, x3⟩

set_option maxRecDepth 100000 in
set_option maxHeartbeats 4000000 in
theorem parse_any (w : World) (a : Option Addr) (m cap : Nat) (l : List UInt8) (hb : HasB w a l) (hg : Glob w) (hm : l.length = m) (ms : m ≤ cap) (cs : cap ≤ 9223372036854775807) (mb : m ≤ 256) :
    Calls Tryd.prog 28 #[.slice a m cap] w fun e w' => e = .returned (.tuple #[.pointer (some ⟨w.heap.size, 0, none⟩), .nilIface]) ∧ ∃ v, PtW w w' v (parseS l) := by
  obtain ⟨i0, hi0, hz0, hz1, hz2⟩ := info_parts info70
  have HP := Lib.hid (PtW.start w)
  have HB := Lib.hid hb
  have HG := Lib.hid hg
  have HM := Lib.hid hm
  clear hb hg hm
  go_enter Tryd.func28, Tryd.ntmps28
  go_wp2_with fail
  go_step3
  go_wp2_with fail
  go_step3
  go_wp2_with fail
  generalize w.alloc (.cells #[.slice none 0 0] 62) = W0 at *
  go_loopg [5] m (fun g x wr => ∃ (i : Nat) (done : List Pc) (v : Value), x = .int .i64 i ∧ i ≤ m ∧ g = m - i ∧ done.length ≤ i ∧ LeftP l done i ∧ PtW w wr v done)
  case atStart => exact ⟨0, [], _, rfl, Nat.zero_le _, rfl, Nat.le_refl _, rfl, HP.out⟩
  case round =>
    obtain ⟨i, done, v, rfl, hi, rfl, hdl, hleft, hw⟩ := hrel
    have HW := Lib.hid hw
    have HL := Lib.hid hleft
    obtain ⟨q0, qf⟩ := hw.cell
    clear hw hleft HP
    by_cases him : i < m
    · have hI : (i : Int) < (m : Int) := by omega
      have hi0' : (0 : Int) ≤ (i : Int) := by omega
      obtain ⟨b, off, rfl, hbl, hbc⟩ : ∃ b off, a = some ⟨b, off, none⟩ ∧ b < w.heap.size ∧ ∀ i (h : i < l.length), w.cell? ⟨b, off + i, none⟩ = some (.int .u8 (iv l[i])) := by
        rcases HB.out with h | h
        · rw [h] at HM; have := HM.out; simp at this; omega
        · exact h
      obtain ⟨c, t, hd⟩ := drop_some (l := l) (q := i) (by rw [HM.out]; exact him)
      have HBC := Lib.hid hbc
      have HBY := Lib.hid (show w.cell? ⟨b, off + i, none⟩ = some (.int .u8 (iv c)) by
        have h1 := hbc i (by rw [HM.out]; exact him)
        rw [get_drop hd (by rw [HM.out]; exact him)] at h1
        exact h1)
      have hc0 : wr.cell? ⟨b, off + i, none⟩ = some (.int .u8 (iv c)) := (HW.out.b.cell (p := ⟨b, off + i, none⟩) hbl).trans HBY.out
      have HC := Lib.hid hd
      clear hd hbc
      by_cases h42 : c = 42
      · subst h42
        rw [show iv 42 = 42 from rfl] at hc0
        have HN := Lib.hid (left_star HL.out HC.out)
        go_wp2_with (at_builtin; refine wpList_append_lies _ rfl (.tmp 33) (.tmp 35) _ rfl (w.heap.size + 1) 70 i0 _ 5 40 Tryd.underlying26 hi0 hz0 hz1 hz2 rfl (by omega) v done.length (pcells done) rfl (HW.out.alloc _).o ⟨wr.heap.size, 0, none⟩ 1 1 (pc5 starP) rfl rfl (fun j u hu => news_lit wr 3 j u hu) (pc5_one _) (by omega) (by unfold maxLen; omega) (by omega) (by have := HW.out.lt; simp; omega) _ rfl ?_; intro g cap' w' hown hgr _ _; have HW' := Lib.hid ((HW.out.alloc (.cells #[.int .i64 3, .int .u64 0, .int .u64 0, .int .u64 0, .int .u64 0] 70)).grow hown hgr); obtain ⟨⟨qq, qqf⟩, -⟩ := (HW.out.alloc (.cells #[.int .i64 3, .int .u64 0, .int .u64 0, .int .u64 0, .int .u64 0] 70)).after hgr; clear hown hgr)
        go_roundg (m - (i + 1))
        case measure => omega
        case rel => exact ⟨i + 1, done ++ [starP], _, rfl, by omega, rfl, by simp; omega, HN.out, HW'.out⟩
      by_cases h63 : c = 63
      · subst h63
        rw [show iv 63 = 63 from rfl] at hc0
        clear h42
        have HN := Lib.hid (left_any HL.out HC.out)
        go_wp2_with (at_builtin; refine wpList_append_lies _ rfl (.tmp 45) (.tmp 47) _ rfl (w.heap.size + 1) 70 i0 _ 5 40 Tryd.underlying26 hi0 hz0 hz1 hz2 rfl (by omega) v done.length (pcells done) rfl (HW.out.alloc _).o ⟨wr.heap.size, 0, none⟩ 1 1 (pc5 anyP) rfl rfl (fun j u hu => news_lit wr 2 j u hu) (pc5_one _) (by omega) (by unfold maxLen; omega) (by omega) (by have := HW.out.lt; simp; omega) _ rfl ?_; intro g cap' w' hown hgr _ _; have HW' := Lib.hid ((HW.out.alloc (.cells #[.int .i64 2, .int .u64 0, .int .u64 0, .int .u64 0, .int .u64 0] 70)).grow hown hgr); obtain ⟨⟨qq, qqf⟩, -⟩ := (HW.out.alloc (.cells #[.int .i64 2, .int .u64 0, .int .u64 0, .int .u64 0, .int .u64 0] 70)).after hgr; clear hown hgr)
        go_roundg (m - (i + 1))
        case measure => omega
        case rel => exact ⟨i + 1, done ++ [anyP], _, rfl, by omega, rfl, by simp; omega, HN.out, HW'.out⟩
      by_cases h91 : c = 91
      · subst h91
        rw [show iv 91 = 91 from rfl] at hc0
        clear h42 h63
        have hdk := (drop_lt _ _ HC.out).2.2
        obtain ⟨k, hk⟩ : ∃ k : Nat, k = i + 1 := ⟨_, rfl⟩
        rw [← hk] at hdk
        have hpk : (i : Int) + 1 = (k : Int) := by omega
        have hCB := bracket_any wr (some ⟨b, off, none⟩) m cap k l (.inr ⟨b, off, rfl, Nat.lt_of_lt_of_le hbl HW.out.b.size, fun j hj => (HW.out.b.cell (p := ⟨b, off + j, none⟩) hbl).trans (HBC.out j hj)⟩) (HG.out.below' HW.out.b) HM.out ms cs mb (by omega)
        rw [hdk] at hCB
        have HCB := Lib.hid hCB
        have HK := Lib.hid hk
        clear hCB hdk hk
        go_wp2_with fail
        cases hbr : brS t with
        | none =>
          have HN := Lib.hid (left_open HL.out HC.out hbr)
          refine HCB.out.mono ?_; rintro e w5 he
          unfold BrPost at he
          rw [hbr] at he
          obtain ⟨⟨t', v', rfl⟩, b5⟩ := he
          obtain ⟨Z0, hZ0⟩ : ∃ Z0 : BitVec 256, Z0 = 0 := ⟨_, rfl⟩
          rw [← hZ0]
          clear hZ0 hbr
          unfold setV wv
          go_upto_region 14 with fail
          have HW6 := Lib.hid ((HW.out.below b5).alloc (.cells #[.int .u64 (wd Z0 0), .int .u64 (wd Z0 1), .int .u64 (wd Z0 2), .int .u64 (wd Z0 3)] 68))
          generalize w5.alloc (.cells #[.int .u64 (wd Z0 0), .int .u64 (wd Z0 1), .int .u64 (wd Z0 2), .int .u64 (wd Z0 3)] 68) = W6 at *
          clear b5 HCB q0 qf hc0
          obtain ⟨q0, qf⟩ := HW6.out.cell
          have hc0 : W6.cell? ⟨b, off + i, none⟩ = some (.int .u8 (iv 91)) := (HW6.out.b.cell (p := ⟨b, off + i, none⟩) hbl).trans HBY.out
          go_wp2_with fail
          have HO := Lib.hid (fun w => one_any (91 : UInt8) w)
          have HQ := Lib.hid (fun (W : World) (v : Value) (l : List Pc) (h : PtW w W v l) => ((h.b.cell (p := ⟨b, off + i, none⟩) hbl).trans HBY.out : W.cell? ⟨b, off + i, none⟩ = some (.int .u8 (iv (91 : UInt8)))))
          unfold pcV at HO
          change Hid (∀ w, Calls Tryd.prog 50 #[.int .u8 (iv (91 : UInt8))] w fun e w' => e = .returned (.agg #[.int .i64 1, wv (bit ((91 : UInt8)).toNat) 0, wv (bit ((91 : UInt8)).toNat) 1, wv (bit ((91 : UInt8)).toNat) 2, wv (bit ((91 : UInt8)).toNat) 3]) ∧ Below w.heap.size w w') at HO
          unfold oneP at HN
          generalize bit ((91 : UInt8)).toNat = S at *
          unfold wv at HO
          obtain ⟨g0, gf0⟩ := HW6.out.drew.cell
          have g1 : W6.drew.cell? ⟨b, off + i, none⟩ = some (.int .u8 (iv (91 : UInt8))) := (HW6.out.drew.b.cell (p := ⟨b, off + i, none⟩) hbl).trans HBY.out
          go_region_law (first
              | (refine step_append_lies _ (by rfl) (.tmp 89) (.tmp 95) _ (by rfl) (w.heap.size + 1) 70 i0 _ 5 40 Tryd.underlying26 hi0 hz0 hz1 hz2 rfl (by omega) v done.length (pcells done) (by rfl) H6.out.o ⟨w5.heap.size, 0, none⟩ 1 1 (pc5 ⟨1, S⟩) (by rfl) rfl (fun j u hu => news_at w5 ⟨1, S⟩ j u hu) (pc5_one _) (by omega) (by unfold maxLen; omega) (by omega) (by have := H5.out.lt; simp; omega) _ rfl ?_; intro g cap' w' hown hgr _ _; have HW' := Lib.hid (H6.out.grow hown hgr); have H7 := Lib.hid (H6.out.after hgr); obtain ⟨⟨qq, qqf⟩, -⟩ := H7.out; clear hown hgr)
              | (go_simp; go_at_call 50; refine (HO.out _).mono ?_; rintro e w5 ⟨rfl, b5⟩; have H5 := Lib.hid (HW6.out.drew.below b5); clear b5; obtain ⟨k0, kf0⟩ := H5.out.cell; have klt := H5.out.lt; have H6 := Lib.hid (H5.out.alloc (.cells #[.int .i64 1, .int .u64 (wd S 0), .int .u64 (wd S 1), .int .u64 (wd S 2), .int .u64 (wd S 3)] 70))))
          all_goals
            go_wp2_with fail
            go_roundg (m - (i + 1))
            case measure => omega
            case rel => exact ⟨i + 1, done ++ [⟨1, S⟩], _, congrArg (Value.int .i64) (by omega), by omega, rfl, by simp; omega, HN.out, HW'.out⟩
        | some r =>
          obtain ⟨S, n⟩ := r
          have hn := br_k hbr
          have hnt : n ≤ t.length := hn.2
          have hn1 : 1 ≤ n := hn.1
          have htl := (drop_lt _ _ HC.out).2.1
          rw [HM.out] at htl
          obtain ⟨z, hz⟩ : ∃ z : Nat, z = i + 1 + n := ⟨_, rfl⟩
          have HN := Lib.hid (hz ▸ left_set HL.out HC.out hbr)
          refine HCB.out.mono ?_; rintro e w5 he
          unfold BrPost at he
          rw [hbr] at he
          obtain ⟨rfl, b5⟩ := he
          rw [show k + (S, n).2 = z by rw [hz, HK.out]]
          have HZ := Lib.hid hz
          have hzm : z ≤ m := by omega
          have hzp : 1 ≤ z := by omega
          have hiz : i < z := by omega
          clear hbr hn hnt hn1 htl hz
          unfold setV wv
          go_upto_region 14 with fail
          have HW6 := Lib.hid ((HW.out.below b5).alloc (.cells #[.int .u64 (wd S 0), .int .u64 (wd S 1), .int .u64 (wd S 2), .int .u64 (wd S 3)] 68))
          have HY6 := Lib.hid (show SetAt (w5.alloc (.cells #[.int .u64 (wd S 0), .int .u64 (wd S 1), .int .u64 (wd S 2), .int .u64 (wd S 3)] 68)) w5.heap.size S from heap_alloc_new _ _)
          have HYL := Lib.hid (show w.heap.size < w5.heap.size from (HW.out.below b5).lt)
          generalize w5.alloc (.cells #[.int .u64 (wd S 0), .int .u64 (wd S 1), .int .u64 (wd S 2), .int .u64 (wd S 3)] 68) = W6 at *
          generalize w5.heap.size = Y at *
          clear b5 HCB q0 qf hc0
          have HD6 := Lib.hid HW6.out.drew
          have HA6 := Lib.hid (HW6.out.alloc (.cells #[.int .i64 1, .int .u64 (wd S 0), .int .u64 (wd S 1), .int .u64 (wd S 2), .int .u64 (wd S 3)] 70)).drew
          have HYD := Lib.hid (HY6.out.kept (drew_grown W6 none) (by simp))
          have HYA := Lib.hid ((HY6.out.kept (alloc_grown W6 (.cells #[.int .i64 1, .int .u64 (wd S 0), .int .u64 (wd S 1), .int .u64 (wd S 2), .int .u64 (wd S 3)] 70) none) (by simp)).kept (drew_grown _ none) (by simp))
          have hYq : ¬ w.heap.size = Y := by have := HYL.out; omega
          obtain ⟨⟨g0, gf0⟩, klt⟩ := (⟨HD6.out.cell, HD6.out.lt⟩ : (W6.drew.cell? ⟨w.heap.size, 0, none⟩ = some v ∧ W6.drew.frozen? ⟨w.heap.size, 0, none⟩ = false) ∧ w.heap.size < W6.drew.heap.size)
          obtain ⟨u0, uf0⟩ := HW6.out.cell
          have ult := HW6.out.lt
          go_wp2_with fail
          obtain ⟨yy0, yy1, yy2, yy3⟩ := HY6.out.s4
          have ylt := HY6.out.lt
          go_region_law ((refine step_append_lies _ (by rfl) (.tmp 67) (.tmp 70) _ (by rfl) (w.heap.size + 1) 70 i0 _ 5 40 Tryd.underlying26 hi0 hz0 hz1 hz2 rfl (by omega) v done.length (pcells done) (by rfl) HA6.out.o ⟨W6.heap.size, 0, none⟩ 1 1 (pc5 ⟨1, S⟩) (by rfl) rfl (fun j u hu => news_at W6 ⟨1, S⟩ j u hu) (pc5_one _) (by omega) (by unfold maxLen; omega) (by omega) (by have := HD6.out.lt; simp; omega) _ rfl ?_; intro g cap' w' hown hgr _ _; have HW' := Lib.hid (HA6.out.grow hown hgr); have H7 := Lib.hid (HA6.out.after hgr); have HYW := Lib.hid (HA6.out.apart HYA.out hgr); have HYF := Lib.hid (HYW.out.kept (grown_setCell w' w.heap.size 0 (.slice (some ⟨g, 0, none⟩) (done.length + 1) cap')) (by intro e; exact hYq (Option.some.inj e))); obtain ⟨⟨qq, qqf⟩, -⟩ := H7.out; clear hown hgr))
          all_goals
            go_wp2_with fail
            go_roundg (m - z)
            case measure => omega
            case rel => exact ⟨z, done ++ [⟨1, S⟩], _, congrArg (Value.int .i64) (by omega), hzm, rfl, by simp; omega, HN.out, HW'.out⟩
      by_cases h92 : c = 92
      · subst h92
        rw [show iv 92 = 92 from rfl] at hc0
        clear h42 h63 h91
        cases t with
        | nil =>
          have HN := Lib.hid (left_end HL.out HC.out)
          have hmi : i + 1 = m := by have := (drop_lt _ _ HC.out).2.1; rw [HM.out] at this; simp at this; omega
          have hJ : ¬ ((i : Int) + 1 < (m : Int)) := by omega
          go_wp2_with fail
          have HO := Lib.hid (fun w => one_any (92 : UInt8) w)
          have HQ := Lib.hid (fun (W : World) (v : Value) (l : List Pc) (h : PtW w W v l) => ((h.b.cell (p := ⟨b, off + i, none⟩) hbl).trans HBY.out : W.cell? ⟨b, off + i, none⟩ = some (.int .u8 (iv (92 : UInt8)))))
          unfold pcV at HO
          change Hid (∀ w, Calls Tryd.prog 50 #[.int .u8 (iv (92 : UInt8))] w fun e w' => e = .returned (.agg #[.int .i64 1, wv (bit ((92 : UInt8)).toNat) 0, wv (bit ((92 : UInt8)).toNat) 1, wv (bit ((92 : UInt8)).toNat) 2, wv (bit ((92 : UInt8)).toNat) 3]) ∧ Below w.heap.size w w') at HO
          unfold oneP at HN
          generalize bit ((92 : UInt8)).toNat = S at *
          unfold wv at HO
          obtain ⟨g0, gf0⟩ := HW.out.drew.cell
          have g1 : wr.drew.cell? ⟨b, off + i, none⟩ = some (.int .u8 (iv (92 : UInt8))) := (HW.out.drew.b.cell (p := ⟨b, off + i, none⟩) hbl).trans HBY.out
          go_region_law (first
              | (refine step_append_lies _ (by rfl) (.tmp 89) (.tmp 95) _ (by rfl) (w.heap.size + 1) 70 i0 _ 5 40 Tryd.underlying26 hi0 hz0 hz1 hz2 rfl (by omega) v done.length (pcells done) (by rfl) H6.out.o ⟨w5.heap.size, 0, none⟩ 1 1 (pc5 ⟨1, S⟩) (by rfl) rfl (fun j u hu => news_at w5 ⟨1, S⟩ j u hu) (pc5_one _) (by omega) (by unfold maxLen; omega) (by omega) (by have := H5.out.lt; simp; omega) _ rfl ?_; intro g cap' w' hown hgr _ _; have HW' := Lib.hid (H6.out.grow hown hgr); have H7 := Lib.hid (H6.out.after hgr); obtain ⟨⟨qq, qqf⟩, -⟩ := H7.out; clear hown hgr)
              | (go_simp; go_at_call 50; refine (HO.out _).mono ?_; rintro e w5 ⟨rfl, b5⟩; have H5 := Lib.hid (HW.out.drew.below b5); clear b5; obtain ⟨k0, kf0⟩ := H5.out.cell; have klt := H5.out.lt; have H6 := Lib.hid (H5.out.alloc (.cells #[.int .i64 1, .int .u64 (wd S 0), .int .u64 (wd S 1), .int .u64 (wd S 2), .int .u64 (wd S 3)] 70))))
          all_goals
            go_wp2_with fail
            go_roundg (m - (i + 1))
            case measure => omega
            case rel => exact ⟨i + 1, done ++ [⟨1, S⟩], _, rfl, by omega, rfl, by simp; omega, HN.out, HW'.out⟩
        | cons d u =>
          have HN := Lib.hid (left_esc HL.out HC.out)
          have hdk := (drop_lt _ _ HC.out).2.2
          obtain ⟨k, hk⟩ : ∃ k : Nat, k = i + 1 := ⟨_, rfl⟩
          rw [← hk] at hdk
          have hkm : k < m := by have := (drop_lt _ _ hdk).1; rw [HM.out] at this; exact this
          have hpk : (i : Int) + 1 = (k : Int) := by omega
          have hJ : (k : Int) < (m : Int) := by omega
          have hJ0 : (0 : Int) ≤ (k : Int) := by omega
          have HBY := Lib.hid (show w.cell? ⟨b, off + k, none⟩ = some (.int .u8 (iv d)) by
            have h1 := HBC.out k (by rw [HM.out]; exact hkm)
            rw [get_drop hdk (by rw [HM.out]; exact hkm)] at h1
            exact h1)
          have HK := Lib.hid hk
          clear hdk hk
          go_wp2_with fail
          have HO := Lib.hid (fun w => one_any d w)
          have HQ := Lib.hid (fun (W : World) (v : Value) (l : List Pc) (h : PtW w W v l) => ((h.b.cell (p := ⟨b, off + k, none⟩) hbl).trans HBY.out : W.cell? ⟨b, off + k, none⟩ = some (.int .u8 (iv d))))
          unfold pcV at HO
          change Hid (∀ w, Calls Tryd.prog 50 #[.int .u8 (iv d)] w fun e w' => e = .returned (.agg #[.int .i64 1, wv (bit (d).toNat) 0, wv (bit (d).toNat) 1, wv (bit (d).toNat) 2, wv (bit (d).toNat) 3]) ∧ Below w.heap.size w w') at HO
          unfold oneP at HN
          generalize bit (d).toNat = S at *
          unfold wv at HO
          obtain ⟨g0, gf0⟩ := HW.out.drew.cell
          have g1 : wr.drew.cell? ⟨b, off + k, none⟩ = some (.int .u8 (iv d)) := (HW.out.drew.b.cell (p := ⟨b, off + k, none⟩) hbl).trans HBY.out
          go_region_law (first
              | (refine step_append_lies _ (by rfl) (.tmp 89) (.tmp 95) _ (by rfl) (w.heap.size + 1) 70 i0 _ 5 40 Tryd.underlying26 hi0 hz0 hz1 hz2 rfl (by omega) v done.length (pcells done) (by rfl) H6.out.o ⟨w5.heap.size, 0, none⟩ 1 1 (pc5 ⟨1, S⟩) (by rfl) rfl (fun j u hu => news_at w5 ⟨1, S⟩ j u hu) (pc5_one _) (by omega) (by unfold maxLen; omega) (by omega) (by have := H5.out.lt; simp; omega) _ rfl ?_; intro g cap' w' hown hgr _ _; have HW' := Lib.hid (H6.out.grow hown hgr); have H7 := Lib.hid (H6.out.after hgr); obtain ⟨⟨qq, qqf⟩, -⟩ := H7.out; clear hown hgr)
              | (go_simp; go_at_call 50; refine (HO.out _).mono ?_; rintro e w5 ⟨rfl, b5⟩; have H5 := Lib.hid (HW.out.drew.below b5); clear b5; obtain ⟨k0, kf0⟩ := H5.out.cell; have klt := H5.out.lt; have H6 := Lib.hid (H5.out.alloc (.cells #[.int .i64 1, .int .u64 (wd S 0), .int .u64 (wd S 1), .int .u64 (wd S 2), .int .u64 (wd S 3)] 70))))
          all_goals
            go_wp2_with fail
            go_roundg (m - (i + 2))
            case measure => omega
            case rel => exact ⟨i + 2, done ++ [⟨1, S⟩], _, congrArg (Value.int .i64) (by omega), by omega, rfl, by simp; omega, HN.out, HW'.out⟩
      · have HN := Lib.hid (left_byte HL.out HC.out h42 h63 h91 h92)
        have x1 : (iv c == 42) = false := by simpa using (fun e => h42 (iv_inj (b := 42) e) : ¬ iv c = 42)
        have x2 : (iv c == 63) = false := by simpa using (fun e => h63 (iv_inj (b := 63) e) : ¬ iv c = 63)
        have x3 : (iv c == 91) = false := by simpa using (fun e => h91 (iv_inj (b := 91) e) : ¬ iv c = 91)
        have x4 : (iv c == 92) = false := by simpa using (fun e => h92 (iv_inj (b := 92) e) : ¬ iv c = 92)
        clear h42 h63 h91 h92
        go_wp2_with fail
        have HO := Lib.hid (fun w => one_any c w)
        have HQ := Lib.hid (fun (W : World) (v : Value) (l : List Pc) (h : PtW w W v l) => ((h.b.cell (p := ⟨b, off + i, none⟩) hbl).trans HBY.out : W.cell? ⟨b, off + i, none⟩ = some (.int .u8 (iv c))))
        unfold pcV at HO
        change Hid (∀ w, Calls Tryd.prog 50 #[.int .u8 (iv c)] w fun e w' => e = .returned (.agg #[.int .i64 1, wv (bit (c).toNat) 0, wv (bit (c).toNat) 1, wv (bit (c).toNat) 2, wv (bit (c).toNat) 3]) ∧ Below w.heap.size w w') at HO
        unfold oneP at HN
        generalize bit (c).toNat = S at *
        unfold wv at HO
        obtain ⟨g0, gf0⟩ := HW.out.drew.cell
        have g1 : wr.drew.cell? ⟨b, off + i, none⟩ = some (.int .u8 (iv c)) := (HW.out.drew.b.cell (p := ⟨b, off + i, none⟩) hbl).trans HBY.out
        go_region_law (first
            | (refine step_append_lies _ (by rfl) (.tmp 89) (.tmp 95) _ (by rfl) (w.heap.size + 1) 70 i0 _ 5 40 Tryd.underlying26 hi0 hz0 hz1 hz2 rfl (by omega) v done.length (pcells done) (by rfl) H6.out.o ⟨w5.heap.size, 0, none⟩ 1 1 (pc5 ⟨1, S⟩) (by rfl) rfl (fun j u hu => news_at w5 ⟨1, S⟩ j u hu) (pc5_one _) (by omega) (by unfold maxLen; omega) (by omega) (by have := H5.out.lt; simp; omega) _ rfl ?_; intro g cap' w' hown hgr _ _; have HW' := Lib.hid (H6.out.grow hown hgr); have H7 := Lib.hid (H6.out.after hgr); obtain ⟨⟨qq, qqf⟩, -⟩ := H7.out; clear hown hgr)
            | (go_simp; go_at_call 50; refine (HO.out _).mono ?_; rintro e w5 ⟨rfl, b5⟩; have H5 := Lib.hid (HW.out.drew.below b5); clear b5; obtain ⟨k0, kf0⟩ := H5.out.cell; have klt := H5.out.lt; have H6 := Lib.hid (H5.out.alloc (.cells #[.int .i64 1, .int .u64 (wd S 0), .int .u64 (wd S 1), .int .u64 (wd S 2), .int .u64 (wd S 3)] 70))))
        all_goals
          go_wp2_with fail
          go_roundg (m - (i + 1))
          case measure => omega
          case rel => exact ⟨i + 1, done ++ [⟨1, S⟩], _, rfl, by omega, rfl, by simp; omega, HN.out, HW'.out⟩
    · have hI : ¬ (i : Int) < (m : Int) := by omega
      obtain rfl : i = m := by omega
      have HE := Lib.hid (show parseS l = done by
        have h1 := HL.out
        unfold LeftP at h1
        rw [h1, List.drop_eq_nil_of_le (by rw [HM.out]; exact Nat.le_refl _), parseS, List.append_nil])
      go_wp2_with fail
      go_ret2
      refine ⟨rfl, v, ?_⟩
      rw [HE.out]
      exact HW.out

end Go.Proofs.YtafmhhhboihdfaaDoor
