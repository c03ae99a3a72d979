/-
  scan.Whole computes the plain function. Conditions: those that each theorem names.
-/
import Derived.Test.YtcmeijeddjckjaaAwake
import Derived.Test.YtcmeijeddjckjaaPlain2
import Derived.Lib.Strings
import Derived.Lib.IndexBytes
namespace Go.Proofs.Ytcmeijeddjckjaa
open Go.RowKit
/-- a text's bytes -/
def bl (s : ByteArray) : List UInt8 := s.data.toList
theorem bl_len (s : ByteArray) : (bl s).length = s.size := (Lib.size_eq s).symm
theorem bl_tl (s : ByteArray) : s.toList = bl s := Lib.toList_data s
theorem bl_drop (s : ByteArray) (k : Nat) : bl (s.extract k s.size) = (bl s).drop k := Lib.extract_to_end s k
theorem bl_take (s : ByteArray) (k : Nat) : bl (s.extract 0 k) = (bl s).take k := by unfold bl; rw [Lib.extract_data]; simp
theorem bl_inj {s t : ByteArray} (h : bl s = bl t) : s = t := by
  cases s; cases t; unfold bl at h; simpa using h
theorem bl_getD (s : ByteArray) (k : Nat) (h : k < s.size) : iv s[k] = iv ((bl s).getD k 0) := by
  have : k < (bl s).length := by rw [bl_len]; exact h
  rw [getD_lt this]; rfl
theorem conv_has (w : World) (s : ByteArray) (c : Nat) (fz : Nat × Nat) : HasB (w.alloc (.cells (bytesRow s c) 5 fz)) (some ⟨w.heap.size, 0, none⟩) (bl s) := by
  refine cells_all _ 5 fz (heap_alloc_new w _) fun i hi => ?_
  have h : i < s.data.size := by rw [bl_len] at hi; exact hi
  rw [Nat.zero_add, bytesRow_at s c i h]; rfl
def crest (s : ByteArray) : ByteArray := if wneg (bl s) then s.extract 1 s.size else s
theorem bl_crest (s : ByteArray) : bl (crest s) = wrest (bl s) := by
  unfold crest wrest; split
  · exact bl_drop s 1
  · rfl
theorem head_eq (s : ByteArray) : ((s.extract 0 1).toList == [45]) = wneg (bl s) := by
  rw [bl_tl, bl_take]; unfold wneg
  cases bl s with
  | nil => rfl
  | cons a t => simp
set_option maxHeartbeats 400000 in
theorem cut_any (s : ByteArray) (w : World) (hs : s.size ≤ 140737488351232) :
    Calls Try.prog 40 #[.string s, .string ⟨#[45]⟩] w fun e w' => e = .returned (.tuple #[.string (crest s), .bool (wneg (bl s))]) ∧ w = w' := by
  have HE := Lib.hid (head_eq s)
  by_cases h0 : 1 ≤ s.size
  · have h0' : (1 : Int) ≤ (s.size : Int) := by omega
    cases hn : wneg (bl s)
    · have hx : ((s.extract 0 1).toList == [45]) = false := HE.out.trans hn
      have HR := Lib.hid (show crest s = s by simp [crest, hn])
      clear hn
      go_enter Try.func40, Try.ntmps40
      go_wp2
      go_ret2
      rw [HR.out]; exact ⟨rfl, rfl⟩
    · have hx : ((s.extract 0 1).toList == [45]) = true := HE.out.trans hn
      have HR := Lib.hid (show crest s = s.extract 1 s.size by simp [crest, hn])
      clear hn
      go_enter Try.func40, Try.ntmps40
      go_wp2
      go_ret2
      rw [HR.out]; exact ⟨rfl, rfl⟩
  · have h0' : ¬ (1 : Int) ≤ (s.size : Int) := by omega
    have hb : bl s = [] := List.length_eq_zero_iff.1 (by rw [bl_len]; omega)
    have hn := Lib.hid (show wneg (bl s) = false by rw [hb]; rfl)
    have HR := Lib.hid (show crest s = s by simp [crest, hb, wneg])
    clear hb
    go_enter Try.func40, Try.ntmps40
    go_wp2
    go_ret2
    rw [HR.out, hn.out]; exact ⟨rfl, rfl⟩
theorem all_snoc' {l : List UInt8} {k : Nat} {x : Int} (hk : k < l.length) (hx : iv l[k] = x) (h : (l.take k).all dec = true) (h1 : 48 ≤ x) (h2 : x ≤ 57) : (l.take (k + 1)).all dec = true :=
  all_snoc_dec hk h (by simp [dec, hx, h1, h2])
theorem val_snoc' {l : List UInt8} {k : Nat} {x : Int} (hk : k < l.length) (hx : iv l[k] = x) : val (l.take (k + 1)) = val (l.take k) * 10 + (x - 48) := by
  rw [take_snoc l k hk, val_snoc, hx]
theorem wok_digit' {lim : Int} {l : List UInt8} {k : Nat} {x : Int} (hk : k < l.length) (hx : iv l[k] = x) (h : x < 48 ∨ 57 < x) : wok lim l = false :=
  wok_digit hk (by simp only [dec, hx, decide_eq_false_iff_not]; omega)
theorem ret_two {k : IntKind} {a b : Int} {c : Value} (h : a = b) : Ending.returned (.tuple #[.int k a, c]) = .returned (.tuple #[.int k b, c]) := by rw [h]
theorem neg_back {v : Int} (h0 : 0 ≤ v) (h1 : v ≤ 9223372036854775808) : wrap64 (-(wrap64 v)) = -v := by
  unfold wrap64; omega
set_option maxHeartbeats 2000000 in
theorem whole_any (s : ByteArray) (w : World) (hs : s.size ≤ 140737488351232) :
    Calls Try.prog 23 #[.string s] w fun e w' => e = .returned (.tuple #[.int .i64 (whole (bl s)).1, .bool (whole (bl s)).2]) ∧ Below w.heap.size w w' := by
  have CC := Lib.hid (cut_any s w hs)
  have HB := bl_crest s
  have hr : (crest s).size ≤ s.size := by unfold crest; split <;> simp
  have W0 := Lib.hid (@whole_no (bl s))
  have W1 := Lib.hid (@whole_neg (bl s))
  have W2 := Lib.hid (@whole_pos (bl s))
  have WL := (show wlim (bl s) = if wneg (bl s) then 9223372036854775808 else 9223372036854775807 from rfl)
  generalize crest s = r at *
  generalize wrest (bl s) = l at *
  subst HB
  generalize wlim (bl s) = lim at *
  generalize wneg (bl s) = neg at *
  generalize whole (bl s) = res at *
  have kc := fun (w : World) (s : ByteArray) => run_bytes_of_string (P := Try.prog) w 9 22 5 s Try.underlying9 Try.underlying22 Try.underlying5
  by_cases h0 : r.size = 0
  · have hl := Lib.hid (W0.out (by rw [List.length_eq_zero_iff.1 ((bl_len r).trans h0)]; rfl))
    have he : r.toList.isEmpty = true := by rw [bl_tl, List.length_eq_zero_iff.1 ((bl_len r).trans h0)]; rfl
    clear h0 WL
    go_enter Try.func23, Try.ntmps23
    go_wp2_with fail
    refine CC.out.mono ?_; rintro e w' ⟨rfl, rfl⟩
    go_wp2_with fail
    go_ret2
    rw [hl.out]; exact ⟨rfl, Below.refl _ _⟩
  · have hne : bl r ≠ [] := fun h => h0 (by rw [← bl_len, h]; rfl)
    have he : r.toList.isEmpty = false := by
      rw [bl_tl]; cases hh : bl r with
      | nil => exact absurd hh hne
      | cons a t => rfl
    cases neg
    all_goals
      simp only [if_true, Bool.false_eq_true, if_false] at WL
      have hlim : 0 ≤ lim ∧ lim ≤ 9223372036854775808 := by omega
      have HL := Lib.hid WL; clear WL
      go_enter Try.func23, Try.ntmps23
      go_wp2_with fail
      refine CC.out.mono ?_; rintro e w' ⟨rfl, rfl⟩
      go_wp2_with fail
      have hbel : Below w.heap.size w (w.alloc (Obj.cells (bytesRow r (grownCap w r.size 0 5)) 5 ((bytesRow r (grownCap w r.size 0 5)).size, (bytesRow r (grownCap w r.size 0 5)).size + 1))).drew := ((Below.refl _ _).alloc (Nat.le_refl _) _).drew
      have hhas := (conv_has w r (grownCap w r.size 0 5) ((bytesRow r (grownCap w r.size 0 5)).size, (bytesRow r (grownCap w r.size 0 5)).size + 1)).below (Below.refl _ _).drew
      generalize (w.alloc (Obj.cells (bytesRow r (grownCap w r.size 0 5)) 5 ((bytesRow r (grownCap w r.size 0 5)).size, (bytesRow r (grownCap w r.size 0 5)).size + 1))).drew = w1 at *
      generalize grownCap w r.size 0 5 = cap at *
      have hlen := bl_len r
      generalize r.size = m at *
      generalize bl r = l at *
      clear kc he
      subst hlen
      go_loop [6, 24] (fun n k => ∃ j : Nat, j ≤ l.length ∧ (l.take j).all dec = true ∧ n = .int .u64 (val (l.take j)) ∧ 0 ≤ val (l.take j) ∧ val (l.take j) ≤ lim ∧ k = .int .i64 j) (fun _ k => l.length - (intOf k).toNat)
      case atStart => exact ⟨0, by omega, rfl, rfl, Int.le_refl _, hlim.1, rfl⟩
      case round =>
        obtain ⟨j, hj, hall, rfl, hv0, hv1, rfl⟩ := hrel
        have HA := Lib.hid hall; clear hall
        by_cases hlt : j < l.length
        · obtain ⟨b, off, hbo, hbs, hc⟩ := hhas.at hlt
          cases hbo
          have hcj := hc j hlt
          clear hc hhas
          rw [Nat.zero_add] at hcj
          have hx0 := iv_lo l[j]
          have hx1 := iv_hi l[j]
          obtain ⟨x, hx⟩ : ∃ x, iv l[j] = x := ⟨_, rfl⟩
          rw [hx] at hcj hx0 hx1
          have HX := Lib.hid hx; clear hx
          have HV := Lib.hid (val_snoc' hlt HX.out)
          generalize val (l.take j) = v at *
          by_cases hxd : 48 ≤ x ∧ x ≤ 57
          · have HA2 := Lib.hid (all_snoc' hlt HX.out HA.out hxd.1 hxd.2)
            by_cases hv : (lim - (x - 48)) / 10 < v
            · have HN := Lib.hid (W0.out (wok_great (k := j + 1) (by rw [HV.out]; omega)))
              rw [HL.out] at hv
              go_wp2_with fail
              go_ret2
              rw [HN.out]; exact ⟨rfl, hbel⟩
            · have hw : v * 10 + (x - 48) ≤ lim := by omega
              rw [HL.out] at hv
              have hv2 := Int.not_lt.1 hv; clear hv
              go_wp2_with fail
              go_round
              case rel => exact ⟨j + 1, by omega, HA2.out, by rw [HV.out], by rw [HV.out]; omega, by rw [HV.out]; omega, by go_num⟩
              case measure => simp [intOf]; omega
          · have HN := Lib.hid (W0.out (wok_digit' hlt HX.out (by omega)))
            rcases (show x < 48 ∨ 57 < x by omega) with hx | hx
            all_goals
              go_wp2_with fail
              go_ret2
              rw [HN.out]; exact ⟨rfl, hbel⟩
        · obtain rfl : j = l.length := by omega
          have HA' := HA.out
          rw [List.take_length] at hv0 hv1 HA' ⊢
          have HY := Lib.hid (wok_yes hne HA' hv1)
          clear HA'
          generalize val l = v at *
          first
            | (have HR := Lib.hid (W1.out HY.out trivial)
               go_wp2_with fail
               go_ret2
               rw [HR.out]
               exact ⟨ret_two (neg_back hv0 (Int.le_trans hv1 hlim.2)), hbel⟩)
            | (have HR := Lib.hid (W2.out HY.out trivial)
               have hv2 : v ≤ 9223372036854775807 := by have := HL.out; omega
               go_wp2_with fail
               go_ret2
               rw [HR.out]
               exact ⟨rfl, hbel⟩)
end Go.Proofs.Ytcmeijeddjckjaa
