/-
  The document's answer: an item of a bracket that is no class. Conditions: those that each theorem names.
-/
import Derived.Test.YtafmhhhboihdfaaDoorParse
namespace Go.Proofs.YtafmhhhboihdfaaDoor
open Go.RowKit
set_option linter.unusedVariables false
attribute [local go_sem ↓] Go.wp_at_zero Go.wp_at_succ
/-- what the document's item answers -/
def RItem (i : Nat) (o : Option It) (e : Ending) : Prop := match o with
  | none => ∃ (S : BitVec 256) (ps : Int), e = .returned (.tuple #[.int .i64 0, setV S, .int .i64 i, .int .i64 8, .int .i64 ps])
  | some x => e = .returned (.tuple #[if x.one then .int .i64 (iv x.b) else .int .i64 (-1), if x.one then setV 0 else setV x.s, .int .i64 ((i + 1 + x.k : Nat) : Int), .int .i64 0, .int .i64 0])
theorem hasB_at {w : World} {a : Option Addr} {l : List UInt8} (h : HasB w a l) (i : Nat) (hi : i < l.length) : ∃ b off, a = some ⟨b, off, none⟩ ∧ b < w.heap.size ∧ ∀ i (h : i < l.length), w.cell? ⟨b, off + i, none⟩ = some (.int .u8 (iv l[i])) := by
  rcases h with h | h
  · rw [h] at hi; simp at hi
  · exact h
theorem wrap_iv (c : UInt8) : wrap64 (iv c) = iv c := by
  have h0 := iv_lo c
  have h1 := iv_hi c
  unfold wrap64
  omega
theorem alloc4_cells {W : World} {s : Nat} {S : BitVec 256} (h : SetAt W s S) : W.cell? ⟨s, 0, none⟩ = some (.int .u64 (wd S 0)) ∧ W.cell? ⟨s, 1, none⟩ = some (.int .u64 (wd S 1)) ∧ W.cell? ⟨s, 2, none⟩ = some (.int .u64 (wd S 2)) ∧ W.cell? ⟨s, 3, none⟩ = some (.int .u64 (wd S 3)) := by
  obtain ⟨p0, p1, p2, p3, -⟩ := h.cells
  exact ⟨p0, p1, p2, p3⟩
theorem drop_get {l t : List UInt8} {c : UInt8} {i : Nat} (hd : l.drop i = c :: t) (hi : i < l.length) : l[i] = c := get_drop hd hi
set_option maxRecDepth 100000 in
set_option maxHeartbeats 1600000 in
theorem ritem_byte (w : World) (a : Option Addr) (m cap i : Nat) (l : List UInt8) (c : UInt8) (t : List UInt8) (hb : HasB w a l) (hm : l.length = m) (ms : m ≤ cap) (cs : cap ≤ 9223372036854775807) (mb : m ≤ 256) (hd : l.drop i = c :: t)
    (h1 : ¬ (c = 91 ∧ (t.head? = some 46 ∨ t.head? = some 61))) (h2 : ¬ (c = 91 ∧ t.head? = some 58)) (h3 : ¬ c = 92) :
    Calls Tryd.prog 54 #[.slice a m cap, .int .i64 i, .int .i64 2] w fun e w' => RItem i (itemS c t) e ∧ Below w.heap.size w w' := by
  have hi := (drop_lt c t hd).1
  obtain ⟨b, off, rfl, hlt, hx⟩ := hasB_at hb i hi
  have hI : (i : Int) < (m : Int) := by omega
  have hI0 : (0 : Int) ≤ (i : Int) := by omega
  have c0 := hx i hi
  rw [get_drop hd hi] at c0
  have HS := Lib.hid (show itemS c t = some ⟨true, c, bit c.toNat, 0⟩ by unfold itemS; rw [if_neg h1, if_neg h2, if_neg h3])
  have HZ := Lib.hid (setat_alloc w)
  have HB0 := Lib.hid (show Below w.heap.size w (w.alloc (.cells #[.int .u64 0, .int .u64 0, .int .u64 0, .int .u64 0] 68)) from (Below.refl _ _).alloc (Nat.le_refl _) _)
  have i3 : (iv c == 92) = false := by simpa using (fun e => h3 (iv_inj (b := 92) e) : ¬ iv c = 92)
  have hw := wrap_iv c
  by_cases hc : c = 91
  · subst hc
    rw [show iv 91 = 91 from rfl] at c0 hw
    clear i3
    have hl := (drop_lt _ t hd).2.1
    cases t with
    | nil =>
      have hJ : ¬ (i : Int) + 1 < (m : Int) := by simp at hl; omega
      clear h1 h2 h3 hb hm hd hx
      go_enter Tryd.func54, Tryd.ntmps54
      go_wp2_with fail
      generalize w.alloc (.cells #[.int .u64 0, .int .u64 0, .int .u64 0, .int .u64 0] 68) = W at *
      obtain ⟨p0, p1, p2, p3⟩ := alloc4_cells HZ.out
      refine bodyPost_ret (v := .tuple #[.int .i64 (iv 91), setV 0, .int .i64 ((i + 1 + 0 : Nat) : Int), .int .i64 0, .int .i64 0]) (by simp [results, Tryd.results54, go_sem, p0, p1, p2, p3, setV, wv, show iv 91 = 91 from rfl]) rfl ?_
      rw [HS.out]
      exact ⟨rfl, HB0.out⟩
    | cons d u =>
      have hd1 := (drop_lt _ _ hd).2.2
      have hi1 := (drop_lt d u hd1).1
      have c1 := hx (i + 1) hi1
      rw [get_drop hd1 hi1] at c1
      obtain ⟨k, hk⟩ : ∃ k : Nat, k = i + 1 := ⟨_, rfl⟩
      rw [← hk] at c1
      have HK := Lib.hid hk
      have hkI : (i : Int) + 1 = (k : Int) := by omega
      have hJ : (k : Int) < (m : Int) := by omega
      have hJ0 : (0 : Int) ≤ (k : Int) := by omega
      have x1 : (iv d == 46) = false := by simpa using (fun e => h1 ⟨rfl, .inl (by rw [iv_inj (a := d) (b := 46) e]; rfl)⟩ : ¬ iv d = 46)
      have x2 : (iv d == 61) = false := by simpa using (fun e => h1 ⟨rfl, .inr (by rw [iv_inj (a := d) (b := 61) e]; rfl)⟩ : ¬ iv d = 61)
      have x3 : (iv d == 58) = false := by simpa using (fun e => h2 ⟨rfl, by rw [iv_inj (a := d) (b := 58) e]; rfl⟩ : ¬ iv d = 58)
      clear h1 h2 h3 hb hm hd hx hd1 hk
      go_enter Tryd.func54, Tryd.ntmps54
      go_wp2_with fail
      generalize w.alloc (.cells #[.int .u64 0, .int .u64 0, .int .u64 0, .int .u64 0] 68) = W at *
      obtain ⟨p0, p1, p2, p3⟩ := alloc4_cells HZ.out
      refine bodyPost_ret (v := .tuple #[.int .i64 (iv 91), setV 0, .int .i64 ((i + 1 + 0 : Nat) : Int), .int .i64 0, .int .i64 0]) ?hr ?hd ?_
      case hd => rfl
      case hr => (simp [results, Tryd.results54, go_sem, p0, p1, p2, p3, setV, wv, show iv 91 = 91 from rfl]; have hk' := HK.out; omega)
      rw [HS.out]
      exact ⟨rfl, HB0.out⟩
  · have i1 : (iv c == 91) = false := by simpa using (fun e => hc (iv_inj (b := 91) e) : ¬ iv c = 91)
    clear h1 h2 h3 hc hb hm hd hx
    go_enter Tryd.func54, Tryd.ntmps54
    go_wp2_with fail
    generalize w.alloc (.cells #[.int .u64 0, .int .u64 0, .int .u64 0, .int .u64 0] 68) = W at *
    obtain ⟨p0, p1, p2, p3⟩ := alloc4_cells HZ.out
    refine bodyPost_ret (v := .tuple #[.int .i64 (iv c), setV 0, .int .i64 ((i + 1 + 0 : Nat) : Int), .int .i64 0, .int .i64 0]) (by simp [results, Tryd.results54, go_sem, p0, p1, p2, p3, setV, wv, hw]) rfl ?_
    rw [HS.out]
    exact ⟨rfl, HB0.out⟩
set_option maxRecDepth 100000 in
set_option maxHeartbeats 1600000 in
theorem ritem_esc (w : World) (a : Option Addr) (m cap i : Nat) (l : List UInt8) (c : UInt8) (t : List UInt8) (hb : HasB w a l) (hm : l.length = m) (ms : m ≤ cap) (cs : cap ≤ 9223372036854775807) (mb : m ≤ 256) (hd : l.drop i = c :: t)
    (h3 : c = 92) :
    Calls Tryd.prog 54 #[.slice a m cap, .int .i64 i, .int .i64 2] w fun e w' => RItem i (itemS c t) e ∧ Below w.heap.size w w' := by
  subst h3
  have hi := (drop_lt _ t hd).1
  obtain ⟨b, off, rfl, hlt, hx⟩ := hasB_at hb i hi
  have hI : (i : Int) < (m : Int) := by omega
  have hI0 : (0 : Int) ≤ (i : Int) := by omega
  have c0 := hx i hi
  rw [get_drop hd hi, show iv 92 = 92 from rfl] at c0
  have HZ := Lib.hid (setat_alloc w)
  have HB0 := Lib.hid (show Below w.heap.size w (w.alloc (.cells #[.int .u64 0, .int .u64 0, .int .u64 0, .int .u64 0] 68)) from (Below.refl _ _).alloc (Nat.le_refl _) _)
  have hl := (drop_lt _ t hd).2.1
  cases t with
  | nil =>
    have hJ : (i : Int) + 1 = (m : Int) := by simp at hl; omega
    have HS := Lib.hid (show itemS 92 [] = none by unfold itemS; simp)
    clear hb hm hd hx
    go_enter Tryd.func54, Tryd.ntmps54
    go_wp2_with fail
    generalize w.alloc (.cells #[.int .u64 0, .int .u64 0, .int .u64 0, .int .u64 0] 68) = W at *
    obtain ⟨p0, p1, p2, p3⟩ := alloc4_cells HZ.out
    refine bodyPost_ret (v := .tuple #[.int .i64 0, setV 0, .int .i64 i, .int .i64 8, .int .i64 m]) (by simp [results, Tryd.results54, go_sem, p0, p1, p2, p3, setV, wv]) rfl ?_
    rw [HS.out]
    exact ⟨⟨_, _, rfl⟩, HB0.out⟩
  | cons d u =>
    have hd1 := (drop_lt _ _ hd).2.2
    have hi1 := (drop_lt d u hd1).1
    have c1 := hx (i + 1) hi1
    rw [get_drop hd1 hi1] at c1
    obtain ⟨k, hk⟩ : ∃ k : Nat, k = i + 1 := ⟨_, rfl⟩
    rw [← hk] at c1
    have HK := Lib.hid hk
    have hkI : (i : Int) + 1 = (k : Int) := by omega
    have hJ : (k : Int) < (m : Int) := by omega
    have hJ0 : (0 : Int) ≤ (k : Int) := by omega
    have hJn : ((k : Int) == (m : Int)) = false := by simp; omega
    have hw := wrap_iv d
    have HS := Lib.hid (show itemS 92 (d :: u) = some ⟨true, d, bit d.toNat, 1⟩ by unfold itemS; simp)
    clear hb hm hd hx hd1 hk
    go_enter Tryd.func54, Tryd.ntmps54
    go_wp2_with fail
    generalize w.alloc (.cells #[.int .u64 0, .int .u64 0, .int .u64 0, .int .u64 0] 68) = W at *
    obtain ⟨p0, p1, p2, p3⟩ := alloc4_cells HZ.out
    refine bodyPost_ret (v := .tuple #[.int .i64 (iv d), setV 0, .int .i64 ((i + 1 + 1 : Nat) : Int), .int .i64 0, .int .i64 0]) (by simp [results, Tryd.results54, go_sem, p0, p1, p2, p3, setV, wv, hw]; omega) rfl ?_
    rw [HS.out]
    exact ⟨rfl, HB0.out⟩
set_option maxRecDepth 100000 in
set_option maxHeartbeats 1600000 in
theorem ritem_dot (w : World) (a : Option Addr) (m cap i : Nat) (l : List UInt8) (c : UInt8) (t : List UInt8) (hb : HasB w a l) (hm : l.length = m) (ms : m ≤ cap) (cs : cap ≤ 9223372036854775807) (mb : m ≤ 256) (hd : l.drop i = c :: t)
    (h1 : c = 91) (h2 : t.head? = some 46 ∨ t.head? = some 61) :
    Calls Tryd.prog 54 #[.slice a m cap, .int .i64 i, .int .i64 2] w fun e w' => RItem i (itemS c t) e ∧ Below w.heap.size w w' := by
  subst h1
  have HS := Lib.hid (show itemS 91 t = none by unfold itemS; rw [if_pos ⟨rfl, h2⟩])
  have hi := (drop_lt _ t hd).1
  obtain ⟨b, off, rfl, hlt, hx⟩ := hasB_at hb i hi
  have hI : (i : Int) < (m : Int) := by omega
  have hI0 : (0 : Int) ≤ (i : Int) := by omega
  have c0 := hx i hi
  rw [get_drop hd hi, show iv 91 = 91 from rfl] at c0
  have HZ := Lib.hid (setat_alloc w)
  have HB0 := Lib.hid (show Below w.heap.size w (w.alloc (.cells #[.int .u64 0, .int .u64 0, .int .u64 0, .int .u64 0] 68)) from (Below.refl _ _).alloc (Nat.le_refl _) _)
  cases t with
  | nil => simp at h2
  | cons d u =>
    have hd1 := (drop_lt _ _ hd).2.2
    have hi1 := (drop_lt d u hd1).1
    have c1 := hx (i + 1) hi1
    rw [get_drop hd1 hi1] at c1
    obtain ⟨k, hk⟩ : ∃ k : Nat, k = i + 1 := ⟨_, rfl⟩
    rw [← hk] at c1
    have hkI : (i : Int) + 1 = (k : Int) := by omega
    have hJ : (k : Int) < (m : Int) := by omega
    have hJ0 : (0 : Int) ≤ (k : Int) := by omega
    have h2' : d = 46 ∨ d = 61 := by simpa using h2
    clear hb hm hd hx hd1 hk h2
    rcases h2' with rfl | rfl
    · rw [show iv 46 = 46 from rfl] at c1
      go_enter Tryd.func54, Tryd.ntmps54
      go_wp2_with fail
      generalize w.alloc (.cells #[.int .u64 0, .int .u64 0, .int .u64 0, .int .u64 0] 68) = W at *
      obtain ⟨p0, p1, p2, p3⟩ := alloc4_cells HZ.out
      refine bodyPost_ret (v := .tuple #[.int .i64 0, setV 0, .int .i64 i, .int .i64 8, .int .i64 i]) (by simp [results, Tryd.results54, go_sem, p0, p1, p2, p3, setV, wv]) rfl ?_
      rw [HS.out]
      exact ⟨⟨_, _, rfl⟩, HB0.out⟩
    · rw [show iv 61 = 61 from rfl] at c1
      go_enter Tryd.func54, Tryd.ntmps54
      go_wp2_with fail
      generalize w.alloc (.cells #[.int .u64 0, .int .u64 0, .int .u64 0, .int .u64 0] 68) = W at *
      obtain ⟨p0, p1, p2, p3⟩ := alloc4_cells HZ.out
      refine bodyPost_ret (v := .tuple #[.int .i64 0, setV 0, .int .i64 i, .int .i64 8, .int .i64 i]) (by simp [results, Tryd.results54, go_sem, p0, p1, p2, p3, setV, wv]) rfl ?_
      rw [HS.out]
      exact ⟨⟨_, _, rfl⟩, HB0.out⟩
end Go.Proofs.YtafmhhhboihdfaaDoor
