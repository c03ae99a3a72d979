/-
  pidginref2.Whole computes the plain function; the walk of the law ScanWhole. Conditions: those that each theorem names.
-/
import Derived.Test.YtcmeijeddjckjaaWhole
namespace Go.Proofs.Ytcmeijeddjckjaa
open Go.RowKit
theorem head_at (s : ByteArray) (h : 0 < s.size) : ((s[0].toNat : Int) == 45) = wneg (bl s) := by
  have e : (s[0].toNat : Int) = iv ((bl s).getD 0 0) := bl_getD s 0 h
  rw [e]
  unfold wneg
  cases hh : bl s with
  | nil => have := bl_len s; rw [hh] at this; simp at this; omega
  | cons a t =>
    have : (iv a == 45) = (a == 45) := by
      rw [Bool.eq_iff_iff]; simp only [beq_iff_eq]
      constructor
      · intro h; exact iv_inj h
      · rintro rfl; rfl
    simp [this]
set_option maxHeartbeats 2000000 in
theorem rwhole_any (s : ByteArray) (w : World) (hs : s.size ≤ 140737488351232) :
    Calls Try.prog 24 #[.string s] w fun e w' => e = .returned (.tuple #[.int .i64 (whole (bl s)).1, .bool (whole (bl s)).2]) ∧ Below w.heap.size w w' := by
  have HB := bl_crest s
  have hr : (crest s).size ≤ s.size := by unfold crest; split <;> simp
  have W0 := Lib.hid (@whole_no (bl s))
  have W1 := Lib.hid (@whole_neg (bl s))
  have W2 := Lib.hid (@whole_pos (bl s))
  have WL := (show wlim (bl s) = if wneg (bl s) then 9223372036854775808 else 9223372036854775807 from rfl)
  have HC := Lib.hid (show crest s = if wneg (bl s) then s.extract 1 s.size else s from rfl)
  have hsz : (wneg (bl s) = true → (crest s).size + 1 = s.size) ∧ (wneg (bl s) = false → (crest s).size = s.size) := by
    constructor
    · intro h
      have : 0 < s.size := by
        rw [← bl_len]; cases hh : bl s with
        | nil => rw [hh] at h; cases h
        | cons a t => simp
      unfold crest; rw [if_pos h, ByteArray.size_extract]; omega
    · intro h; unfold crest; rw [h]; rfl
  have HH := Lib.hid (fun h => head_at s h)
  generalize hcr : crest s = r at *
  clear hcr
  generalize wrest (bl s) = l at *
  subst HB
  generalize wlim (bl s) = lim at *
  generalize wneg (bl s) = neg at *
  generalize whole (bl s) = res at *
  have kc := fun (w : World) (s : ByteArray) => run_bytes_of_string (P := Try.prog) w 9 22 5 s Try.underlying9 Try.underlying22 Try.underlying5
  have hlim : 0 ≤ lim ∧ lim ≤ 9223372036854775808 := by split at WL <;> omega
  have HL := Lib.hid WL; clear WL
  have HE := Lib.hid (show 0 < r.size → bl r ≠ [] from fun h k => by rw [← bl_len, k] at h; simp at h)
  have HZ := Lib.hid (show ¬ 0 < r.size → res = (0, false) from fun h => W0.out (by rw [List.length_eq_zero_iff.1 ((bl_len r).trans (by omega))]; rfl))
  rcases (show (neg = false ∧ r = s ∧ 0 < r.size) ∨ (neg = false ∧ r = s ∧ ¬ 0 < r.size) ∨ (neg = true ∧ s.extract 1 s.size = r ∧ r.size + 1 = s.size ∧ 0 < r.size) ∨ (neg = true ∧ s.extract 1 s.size = r ∧ r.size + 1 = s.size ∧ ¬ 0 < r.size) by
    have h := HC.out
    cases neg
    · simp only [Bool.false_eq_true, if_false] at h
      rcases Nat.lt_or_ge 0 r.size with h0 | h0
      · exact .inl ⟨rfl, h, h0⟩
      · exact .inr (.inl ⟨rfl, h, by omega⟩)
    · simp only [if_true] at h
      have := hsz.1 rfl
      rcases Nat.lt_or_ge 0 r.size with h0 | h0
      · exact .inr (.inr (.inl ⟨rfl, h.symm, this, h0⟩))
      · exact .inr (.inr (.inr ⟨rfl, h.symm, this, by omega⟩))) with ⟨rfl, rfl, h0⟩ | ⟨rfl, rfl, h0⟩ | ⟨rfl, hE, hS, h0⟩ | ⟨rfl, hE, hS, h0⟩
  · have h3 : (0 : Int) < (r.size : Int) := by omega
    have h4 := HH.out h0
    clear hsz
    go_enter Try.func24, Try.ntmps24
    go_wp2_with fail
    clear h3 HH HC
    generalize (r[0]'h0).toNat = x0 at *
    clear h4
    have hbel : Below w.heap.size w (w.alloc (Obj.cells (bytesRow r (grownCap w r.size 0 5)) 5 ((bytesRow r (grownCap w r.size 0 5)).size, (bytesRow r (grownCap w r.size 0 5)).size + 1))).drew := ((Below.refl _ _).alloc (Nat.le_refl _) _).drew
    have hhas := (conv_has w r (grownCap w r.size 0 5) ((bytesRow r (grownCap w r.size 0 5)).size, (bytesRow r (grownCap w r.size 0 5)).size + 1)).below (Below.refl _ _).drew
    generalize (w.alloc (Obj.cells (bytesRow r (grownCap w r.size 0 5)) 5 ((bytesRow r (grownCap w r.size 0 5)).size, (bytesRow r (grownCap w r.size 0 5)).size + 1))).drew = w1 at *
    generalize grownCap w r.size 0 5 = cap at *
    have hlen := bl_len r
    generalize r.size = m at *
    generalize bl r = l at *
    clear kc
    subst hlen
    have H0 := Lib.hid h0
    clear h0
    go_loop [5, 26] (fun n k => ∃ j : Nat, j ≤ l.length ∧ (l.take j).all dec = true ∧ n = .int .u64 (val (l.take j)) ∧ 0 ≤ val (l.take j) ∧ val (l.take j) ≤ 9223372036854775808 ∧ k = .int .i64 j) (fun _ k => l.length - (intOf k).toNat)
    case atStart => exact ⟨0, by omega, rfl, rfl, Int.le_refl _, (by show (0 : Int) ≤ _; omega), rfl⟩
    case round =>
      obtain ⟨j, hj, hall, rfl, hv0, hv1, rfl⟩ := hrel
      have HA := Lib.hid hall; clear hall
      by_cases hlt : j < l.length
      · obtain ⟨b, off, hbo, hbs, hc⟩ := hhas.at hlt
        cases hbo
        have hcj := hc j hlt
        clear hc hhas
        rw [Nat.zero_add] at hcj
        have hx0 := iv_lo l[j]
        have hx1 := iv_hi l[j]
        obtain ⟨x, hx⟩ : ∃ x, iv l[j] = x := ⟨_, rfl⟩
        rw [hx] at hcj hx0 hx1
        have HX := Lib.hid hx; clear hx
        have HV := Lib.hid (val_snoc' hlt HX.out)
        generalize val (l.take j) = v at *
        by_cases hxd : 48 ≤ x ∧ x ≤ 57
        · have HA2 := Lib.hid (all_snoc' hlt HX.out HA.out hxd.1 hxd.2)
          by_cases hv : 922337203685477580 < v
          · have HN := Lib.hid (W0.out (wok_great (k := j + 1) (by rw [HV.out]; omega)))
            go_wp2_with fail
            go_ret2
            rw [HN.out]; exact ⟨rfl, hbel⟩
          · have hv2 := Int.not_lt.1 hv; clear hv
            by_cases hw : 9223372036854775808 < v * 10 + (x - 48)
            · have HN := Lib.hid (W0.out (wok_great (k := j + 1) (by rw [HV.out]; omega)))
              go_wp2_with fail
              go_ret2
              rw [HN.out]; exact ⟨rfl, hbel⟩
            · have hw2 := Int.not_lt.1 hw; clear hw
              go_wp2_with fail
              go_round
              case rel => exact ⟨j + 1, by omega, HA2.out, by rw [HV.out], by rw [HV.out]; omega, by rw [HV.out]; omega, by go_num⟩
              case measure => simp [intOf]; omega
        · have HN := Lib.hid (W0.out (wok_digit' hlt HX.out (by omega)))
          rcases (show x < 48 ∨ 57 < x by omega) with hx | hx
          all_goals
            go_wp2_with fail
            go_ret2
            rw [HN.out]; exact ⟨rfl, hbel⟩
      · obtain rfl : j = l.length := by omega
        have HA' := HA.out
        rw [List.take_length] at hv0 hv1 HA' ⊢
        have HY := Lib.hid (fun (hne : l ≠ []) (h : val l ≤ lim) => wok_yes hne HA' h)
        have HG := Lib.hid (fun (h : lim < val l) => W0.out (wok_great (k := l.length) (by rw [List.take_length]; exact h)))
        clear HA' HA
        generalize val l = v at *
        first
          | (have HN := Lib.hid (HZ.out H0.out)
             go_wp2_with fail
             go_ret2
             rw [HN.out]; exact ⟨rfl, hbel⟩)
          | (have HR := Lib.hid (W1.out (HY.out (HE.out H0.out) (by rw [HL.out]; simpa using hv1)) trivial)
             go_wp2_with fail
             go_ret2
             rw [HR.out]
             exact ⟨ret_two (neg_back hv0 hv1), hbel⟩)
          | (by_cases hv2 : 9223372036854775807 < v
             · have HN := Lib.hid (HG.out (by rw [HL.out]; simpa using hv2))
               go_wp2_with fail
               go_ret2
               rw [HN.out]; exact ⟨rfl, hbel⟩
             · have HR := Lib.hid (W2.out (HY.out (HE.out H0.out) (by rw [HL.out]; simp; omega)) trivial)
               have hv3 := Int.not_lt.1 hv2; clear hv2
               go_wp2_with fail
               go_ret2
               rw [HR.out]
               exact ⟨rfl, hbel⟩)
  · have h3 : ¬ (0 : Int) < (r.size : Int) := by omega
    clear hsz
    go_enter Try.func24, Try.ntmps24
    go_wp2_with fail
    clear h3 HH HC
    have hbel : Below w.heap.size w (w.alloc (Obj.cells (bytesRow r (grownCap w r.size 0 5)) 5 ((bytesRow r (grownCap w r.size 0 5)).size, (bytesRow r (grownCap w r.size 0 5)).size + 1))).drew := ((Below.refl _ _).alloc (Nat.le_refl _) _).drew
    have hhas := (conv_has w r (grownCap w r.size 0 5) ((bytesRow r (grownCap w r.size 0 5)).size, (bytesRow r (grownCap w r.size 0 5)).size + 1)).below (Below.refl _ _).drew
    generalize (w.alloc (Obj.cells (bytesRow r (grownCap w r.size 0 5)) 5 ((bytesRow r (grownCap w r.size 0 5)).size, (bytesRow r (grownCap w r.size 0 5)).size + 1))).drew = w1 at *
    generalize grownCap w r.size 0 5 = cap at *
    have hlen := bl_len r
    generalize r.size = m at *
    generalize bl r = l at *
    clear kc
    subst hlen
    have H0 := Lib.hid h0
    clear h0
    go_loop [5, 26] (fun n k => ∃ j : Nat, j ≤ l.length ∧ (l.take j).all dec = true ∧ n = .int .u64 (val (l.take j)) ∧ 0 ≤ val (l.take j) ∧ val (l.take j) ≤ 9223372036854775808 ∧ k = .int .i64 j) (fun _ k => l.length - (intOf k).toNat)
    case atStart => exact ⟨0, by omega, rfl, rfl, Int.le_refl _, (by show (0 : Int) ≤ _; omega), rfl⟩
    case round =>
      obtain ⟨j, hj, hall, rfl, hv0, hv1, rfl⟩ := hrel
      have HA := Lib.hid hall; clear hall
      by_cases hlt : j < l.length
      · obtain ⟨b, off, hbo, hbs, hc⟩ := hhas.at hlt
        cases hbo
        have hcj := hc j hlt
        clear hc hhas
        rw [Nat.zero_add] at hcj
        have hx0 := iv_lo l[j]
        have hx1 := iv_hi l[j]
        obtain ⟨x, hx⟩ : ∃ x, iv l[j] = x := ⟨_, rfl⟩
        rw [hx] at hcj hx0 hx1
        have HX := Lib.hid hx; clear hx
        have HV := Lib.hid (val_snoc' hlt HX.out)
        generalize val (l.take j) = v at *
        by_cases hxd : 48 ≤ x ∧ x ≤ 57
        · have HA2 := Lib.hid (all_snoc' hlt HX.out HA.out hxd.1 hxd.2)
          by_cases hv : 922337203685477580 < v
          · have HN := Lib.hid (W0.out (wok_great (k := j + 1) (by rw [HV.out]; omega)))
            go_wp2_with fail
            go_ret2
            rw [HN.out]; exact ⟨rfl, hbel⟩
          · have hv2 := Int.not_lt.1 hv; clear hv
            by_cases hw : 9223372036854775808 < v * 10 + (x - 48)
            · have HN := Lib.hid (W0.out (wok_great (k := j + 1) (by rw [HV.out]; omega)))
              go_wp2_with fail
              go_ret2
              rw [HN.out]; exact ⟨rfl, hbel⟩
            · have hw2 := Int.not_lt.1 hw; clear hw
              go_wp2_with fail
              go_round
              case rel => exact ⟨j + 1, by omega, HA2.out, by rw [HV.out], by rw [HV.out]; omega, by rw [HV.out]; omega, by go_num⟩
              case measure => simp [intOf]; omega
        · have HN := Lib.hid (W0.out (wok_digit' hlt HX.out (by omega)))
          rcases (show x < 48 ∨ 57 < x by omega) with hx | hx
          all_goals
            go_wp2_with fail
            go_ret2
            rw [HN.out]; exact ⟨rfl, hbel⟩
      · obtain rfl : j = l.length := by omega
        have HA' := HA.out
        rw [List.take_length] at hv0 hv1 HA' ⊢
        have HY := Lib.hid (fun (hne : l ≠ []) (h : val l ≤ lim) => wok_yes hne HA' h)
        have HG := Lib.hid (fun (h : lim < val l) => W0.out (wok_great (k := l.length) (by rw [List.take_length]; exact h)))
        clear HA' HA
        generalize val l = v at *
        first
          | (have HN := Lib.hid (HZ.out H0.out)
             go_wp2_with fail
             go_ret2
             rw [HN.out]; exact ⟨rfl, hbel⟩)
          | (have HR := Lib.hid (W1.out (HY.out (HE.out H0.out) (by rw [HL.out]; simpa using hv1)) trivial)
             go_wp2_with fail
             go_ret2
             rw [HR.out]
             exact ⟨ret_two (neg_back hv0 hv1), hbel⟩)
          | (by_cases hv2 : 9223372036854775807 < v
             · have HN := Lib.hid (HG.out (by rw [HL.out]; simpa using hv2))
               go_wp2_with fail
               go_ret2
               rw [HN.out]; exact ⟨rfl, hbel⟩
             · have HR := Lib.hid (W2.out (HY.out (HE.out H0.out) (by rw [HL.out]; simp; omega)) trivial)
               have hv3 := Int.not_lt.1 hv2; clear hv2
               go_wp2_with fail
               go_ret2
               rw [HR.out]
               exact ⟨rfl, hbel⟩)
  · have h3 : (0 : Int) < (s.size : Int) := by omega
    have h4 := HH.out (by omega)
    clear hsz
    go_enter Try.func24, Try.ntmps24
    go_wp2_with fail
    clear h3 h4 hE hS HH HC
    have hbel : Below w.heap.size w (w.alloc (Obj.cells (bytesRow r (grownCap w r.size 0 5)) 5 ((bytesRow r (grownCap w r.size 0 5)).size, (bytesRow r (grownCap w r.size 0 5)).size + 1))).drew := ((Below.refl _ _).alloc (Nat.le_refl _) _).drew
    have hhas := (conv_has w r (grownCap w r.size 0 5) ((bytesRow r (grownCap w r.size 0 5)).size, (bytesRow r (grownCap w r.size 0 5)).size + 1)).below (Below.refl _ _).drew
    generalize (w.alloc (Obj.cells (bytesRow r (grownCap w r.size 0 5)) 5 ((bytesRow r (grownCap w r.size 0 5)).size, (bytesRow r (grownCap w r.size 0 5)).size + 1))).drew = w1 at *
    generalize grownCap w r.size 0 5 = cap at *
    have hlen := bl_len r
    generalize r.size = m at *
    generalize bl r = l at *
    clear kc
    subst hlen
    have H0 := Lib.hid h0
    clear h0
    go_loop [5, 26] (fun n k => ∃ j : Nat, j ≤ l.length ∧ (l.take j).all dec = true ∧ n = .int .u64 (val (l.take j)) ∧ 0 ≤ val (l.take j) ∧ val (l.take j) ≤ 9223372036854775808 ∧ k = .int .i64 j) (fun _ k => l.length - (intOf k).toNat)
    case atStart => exact ⟨0, by omega, rfl, rfl, Int.le_refl _, (by show (0 : Int) ≤ _; omega), rfl⟩
    case round =>
      obtain ⟨j, hj, hall, rfl, hv0, hv1, rfl⟩ := hrel
      have HA := Lib.hid hall; clear hall
      by_cases hlt : j < l.length
      · obtain ⟨b, off, hbo, hbs, hc⟩ := hhas.at hlt
        cases hbo
        have hcj := hc j hlt
        clear hc hhas
        rw [Nat.zero_add] at hcj
        have hx0 := iv_lo l[j]
        have hx1 := iv_hi l[j]
        obtain ⟨x, hx⟩ : ∃ x, iv l[j] = x := ⟨_, rfl⟩
        rw [hx] at hcj hx0 hx1
        have HX := Lib.hid hx; clear hx
        have HV := Lib.hid (val_snoc' hlt HX.out)
        generalize val (l.take j) = v at *
        by_cases hxd : 48 ≤ x ∧ x ≤ 57
        · have HA2 := Lib.hid (all_snoc' hlt HX.out HA.out hxd.1 hxd.2)
          by_cases hv : 922337203685477580 < v
          · have HN := Lib.hid (W0.out (wok_great (k := j + 1) (by rw [HV.out]; omega)))
            go_wp2_with fail
            go_ret2
            rw [HN.out]; exact ⟨rfl, hbel⟩
          · have hv2 := Int.not_lt.1 hv; clear hv
            by_cases hw : 9223372036854775808 < v * 10 + (x - 48)
            · have HN := Lib.hid (W0.out (wok_great (k := j + 1) (by rw [HV.out]; omega)))
              go_wp2_with fail
              go_ret2
              rw [HN.out]; exact ⟨rfl, hbel⟩
            · have hw2 := Int.not_lt.1 hw; clear hw
              go_wp2_with fail
              go_round
              case rel => exact ⟨j + 1, by omega, HA2.out, by rw [HV.out], by rw [HV.out]; omega, by rw [HV.out]; omega, by go_num⟩
              case measure => simp [intOf]; omega
        · have HN := Lib.hid (W0.out (wok_digit' hlt HX.out (by omega)))
          rcases (show x < 48 ∨ 57 < x by omega) with hx | hx
          all_goals
            go_wp2_with fail
            go_ret2
            rw [HN.out]; exact ⟨rfl, hbel⟩
      · obtain rfl : j = l.length := by omega
        have HA' := HA.out
        rw [List.take_length] at hv0 hv1 HA' ⊢
        have HY := Lib.hid (fun (hne : l ≠ []) (h : val l ≤ lim) => wok_yes hne HA' h)
        have HG := Lib.hid (fun (h : lim < val l) => W0.out (wok_great (k := l.length) (by rw [List.take_length]; exact h)))
        clear HA' HA
        generalize val l = v at *
        first
          | (have HN := Lib.hid (HZ.out H0.out)
             go_wp2_with fail
             go_ret2
             rw [HN.out]; exact ⟨rfl, hbel⟩)
          | (have HR := Lib.hid (W1.out (HY.out (HE.out H0.out) (by rw [HL.out]; simpa using hv1)) trivial)
             go_wp2_with fail
             go_ret2
             rw [HR.out]
             exact ⟨ret_two (neg_back hv0 hv1), hbel⟩)
          | (by_cases hv2 : 9223372036854775807 < v
             · have HN := Lib.hid (HG.out (by rw [HL.out]; simpa using hv2))
               go_wp2_with fail
               go_ret2
               rw [HN.out]; exact ⟨rfl, hbel⟩
             · have HR := Lib.hid (W2.out (HY.out (HE.out H0.out) (by rw [HL.out]; simp; omega)) trivial)
               have hv3 := Int.not_lt.1 hv2; clear hv2
               go_wp2_with fail
               go_ret2
               rw [HR.out]
               exact ⟨rfl, hbel⟩)
  · have h3 : (0 : Int) < (s.size : Int) := by omega
    have h4 := HH.out (by omega)
    clear hsz
    go_enter Try.func24, Try.ntmps24
    go_wp2_with fail
    clear h3 h4 hE hS HH HC
    have hbel : Below w.heap.size w (w.alloc (Obj.cells (bytesRow r (grownCap w r.size 0 5)) 5 ((bytesRow r (grownCap w r.size 0 5)).size, (bytesRow r (grownCap w r.size 0 5)).size + 1))).drew := ((Below.refl _ _).alloc (Nat.le_refl _) _).drew
    have hhas := (conv_has w r (grownCap w r.size 0 5) ((bytesRow r (grownCap w r.size 0 5)).size, (bytesRow r (grownCap w r.size 0 5)).size + 1)).below (Below.refl _ _).drew
    generalize (w.alloc (Obj.cells (bytesRow r (grownCap w r.size 0 5)) 5 ((bytesRow r (grownCap w r.size 0 5)).size, (bytesRow r (grownCap w r.size 0 5)).size + 1))).drew = w1 at *
    generalize grownCap w r.size 0 5 = cap at *
    have hlen := bl_len r
    generalize r.size = m at *
    generalize bl r = l at *
    clear kc
    subst hlen
    have H0 := Lib.hid h0
    clear h0
    go_loop [5, 26] (fun n k => ∃ j : Nat, j ≤ l.length ∧ (l.take j).all dec = true ∧ n = .int .u64 (val (l.take j)) ∧ 0 ≤ val (l.take j) ∧ val (l.take j) ≤ 9223372036854775808 ∧ k = .int .i64 j) (fun _ k => l.length - (intOf k).toNat)
    case atStart => exact ⟨0, by omega, rfl, rfl, Int.le_refl _, (by show (0 : Int) ≤ _; omega), rfl⟩
    case round =>
      obtain ⟨j, hj, hall, rfl, hv0, hv1, rfl⟩ := hrel
      have HA := Lib.hid hall; clear hall
      by_cases hlt : j < l.length
      · obtain ⟨b, off, hbo, hbs, hc⟩ := hhas.at hlt
        cases hbo
        have hcj := hc j hlt
        clear hc hhas
        rw [Nat.zero_add] at hcj
        have hx0 := iv_lo l[j]
        have hx1 := iv_hi l[j]
        obtain ⟨x, hx⟩ : ∃ x, iv l[j] = x := ⟨_, rfl⟩
        rw [hx] at hcj hx0 hx1
        have HX := Lib.hid hx; clear hx
        have HV := Lib.hid (val_snoc' hlt HX.out)
        generalize val (l.take j) = v at *
        by_cases hxd : 48 ≤ x ∧ x ≤ 57
        · have HA2 := Lib.hid (all_snoc' hlt HX.out HA.out hxd.1 hxd.2)
          by_cases hv : 922337203685477580 < v
          · have HN := Lib.hid (W0.out (wok_great (k := j + 1) (by rw [HV.out]; omega)))
            go_wp2_with fail
            go_ret2
            rw [HN.out]; exact ⟨rfl, hbel⟩
          · have hv2 := Int.not_lt.1 hv; clear hv
            by_cases hw : 9223372036854775808 < v * 10 + (x - 48)
            · have HN := Lib.hid (W0.out (wok_great (k := j + 1) (by rw [HV.out]; omega)))
              go_wp2_with fail
              go_ret2
              rw [HN.out]; exact ⟨rfl, hbel⟩
            · have hw2 := Int.not_lt.1 hw; clear hw
              go_wp2_with fail
              go_round
              case rel => exact ⟨j + 1, by omega, HA2.out, by rw [HV.out], by rw [HV.out]; omega, by rw [HV.out]; omega, by go_num⟩
              case measure => simp [intOf]; omega
        · have HN := Lib.hid (W0.out (wok_digit' hlt HX.out (by omega)))
          rcases (show x < 48 ∨ 57 < x by omega) with hx | hx
          all_goals
            go_wp2_with fail
            go_ret2
            rw [HN.out]; exact ⟨rfl, hbel⟩
      · obtain rfl : j = l.length := by omega
        have HA' := HA.out
        rw [List.take_length] at hv0 hv1 HA' ⊢
        have HY := Lib.hid (fun (hne : l ≠ []) (h : val l ≤ lim) => wok_yes hne HA' h)
        have HG := Lib.hid (fun (h : lim < val l) => W0.out (wok_great (k := l.length) (by rw [List.take_length]; exact h)))
        clear HA' HA
        generalize val l = v at *
        first
          | (have HN := Lib.hid (HZ.out H0.out)
             go_wp2_with fail
             go_ret2
             rw [HN.out]; exact ⟨rfl, hbel⟩)
          | (have HR := Lib.hid (W1.out (HY.out (HE.out H0.out) (by rw [HL.out]; simpa using hv1)) trivial)
             go_wp2_with fail
             go_ret2
             rw [HR.out]
             exact ⟨ret_two (neg_back hv0 hv1), hbel⟩)
          | (by_cases hv2 : 9223372036854775807 < v
             · have HN := Lib.hid (HG.out (by rw [HL.out]; simpa using hv2))
               go_wp2_with fail
               go_ret2
               rw [HN.out]; exact ⟨rfl, hbel⟩
             · have HR := Lib.hid (W2.out (HY.out (HE.out H0.out) (by rw [HL.out]; simp; omega)) trivial)
               have hv3 := Int.not_lt.1 hv2; clear hv2
               go_wp2_with fail
               go_ret2
               rw [HR.out]
               exact ⟨rfl, hbel⟩)
end Go.Proofs.Ytcmeijeddjckjaa
