/-
  Cursors: Take; strings.HasPrefix. Conditions: those that each theorem names.
-/
import Derived.Test.YtcmeijeddjckjaaCur2
namespace Go.Proofs.Ytcmeijeddjckjaa
open Go.RowKit
set_option linter.unusedVariables false
def pre (t l : List UInt8) : Bool := t.isPrefixOf l
theorem pre_eq (t l : List UInt8) : pre t l = (l.take t.length == t) := by
  unfold pre
  rw [Bool.eq_iff_iff, List.isPrefixOf_iff_prefix, beq_iff_eq, List.prefix_iff_eq_take]
  exact ⟨fun h => h.symm, fun h => h.symm⟩
theorem pre_len {t l : List UInt8} (h : pre t l = true) : t.length ≤ l.length := (List.isPrefixOf_iff_prefix.1 h).length_le
set_option maxHeartbeats 400000 in
theorem hasPrefix_any (s p : ByteArray) (w : World) (hs : s.size ≤ 9223372036854775807) (hp : p.size ≤ 9223372036854775807) :
    Calls Try.prog 42 #[.string s, .string p] w fun e w' => e = .returned (.bool (pre (bl p) (bl s))) ∧ w = w' := by
  have E := Lib.hid (show pre (bl p) (bl s) = ((s.extract 0 p.size).toList == p.toList) by rw [pre_eq, bl_tl, bl_tl, bl_take, bl_len])
  by_cases h : p.size ≤ s.size
  · have h1 : (p.size : Int) ≤ (s.size : Int) := by omega
    go_enter Try.func42, Try.ntmps42
    go_wp2
    go_ret
    rw [E.out]; exact ⟨rfl, rfl⟩
  · have h1 : ¬ (p.size : Int) ≤ (s.size : Int) := by omega
    have E := Lib.hid (show pre (bl p) (bl s) = false by
      cases hh : pre (bl p) (bl s) with
      | false => rfl
      | true => have := pre_len hh; rw [bl_len, bl_len] at this; omega)
    go_enter Try.func42, Try.ntmps42
    go_wp2
    go_ret
    rw [E.out]; exact ⟨rfl, rfl⟩
def adrop (a : Option Addr) (cap k : Nat) : Option Addr := if cap = k then a else a.map (·.add (k * 1))
theorem run_slice_from (a : Option Addr) (n cap k : Nat) (w : World) (hk : k ≤ n) :
    (Instr.slice 22 (.slice a n cap) (some (.int .i64 k)) none none).run Try.prog w = .ok (.slice (adrop a cap k) (n - k) (cap - k)) w := by
  have hu := Try.underlying22
  have hs : ∀ w, (sizeOf 5).run Try.prog w = .ok 1 w := fun w => by kernel_rfl
  simp [Instr.slice, run_underlying hu, Instr.sliceBounds, run_sliceBound, hk, hs, adrop]
theorem run_slice_mid (a : Option Addr) (n cap k m : Nat) (w : World) (hk : k ≤ m) (hm : m ≤ cap) :
    (Instr.slice 22 (.slice a n cap) (some (.int .i64 k)) (some (.int .i64 m)) none).run Try.prog w = .ok (.slice (adrop a cap k) (m - k) (cap - k)) w := by
  have hu := Try.underlying22
  have hs : ∀ w, (sizeOf 5).run Try.prog w = .ok 1 w := fun w => by kernel_rfl
  simp [Instr.slice, run_underlying hu, Instr.sliceBounds, run_sliceBound, hk, hm, hs, adrop]
theorem HasB.adrop {w : World} {a : Option Addr} {l : List UInt8} (h : HasB w a l) {cap : Nat} (hcap : l.length ≤ cap) (k : Nat) : HasB w (adrop a cap k) (l.drop k) := by
  unfold Ytcmeijeddjckjaa.adrop
  split
  · exact .inl (by rw [List.drop_eq_nil_iff]; omega)
  · rcases h with rfl | ⟨b, off, rfl, hb, hc⟩
    · exact .inl (by simp)
    · have : Option.map (fun x : Addr => x.add (k * 1)) (some ⟨b, off, none⟩) = some ⟨b, off + k, none⟩ := by
        simp [Addr.add]
      rw [this]
      exact HasB.drop hb hc
theorem HasB.drewN {w : World} {a : Option Addr} {l : List UInt8} (h : HasB w a l) (n : Nat) : HasB (w.drewN n) a l := by
  rcases h with h | ⟨b, off, h1, h2, h3⟩
  · exact .inl h
  · exact .inr ⟨b, off, h1, h2, fun i hi => h3 i hi⟩
theorem conv_str_n (w : World) (a : Option Addr) (n cap : Nat) (l : List UInt8) (hn : l.length = n) (h : HasB w a l) : (convert 22 9 (.slice a n cap)).run Try.prog w = .ok (.string ⟨l.toArray⟩) w := by
  subst hn; exact conv_str w a cap l h
set_option maxHeartbeats 1000000 in
theorem take_any (w : World) (B c : Nat) (l : List UInt8) (k : Nat) (t : ByteArray) (h : Cur w B c l k) (ht : t.size ≤ 9223372036854775807) :
    Calls Try.prog 33 #[.pointer (some ⟨c, 0, none⟩), .string t] w fun e w' => e = .returned (.bool (pre (bl t) (l.drop k))) ∧ Cur w' B c l (if pre (bl t) (l.drop k) then k + t.size else k) ∧ w.grownBy w' (some c) := by
  have H := Lib.hid h
  obtain ⟨a, cap, h1, h2, h3, h4, h5, -⟩ := h
  have hb : HasB w a l := by
    rcases h2 with h2 | ⟨b, off, ha, -, -, hc⟩
    · exact .inl h2
    · rcases Nat.eq_zero_or_pos l.length with h0 | h0
      · exact .inl (List.length_eq_zero_iff.1 h0)
      · exact .inr ⟨b, off, ha, World.block_lt_of_cell? w _ (hc 0 h0), hc⟩
  have c0 : ∀ n, (w.drewN n).cell? ⟨c, 0, none⟩ = some (.slice a l.length cap) := fun n => by show w.cell? _ = _; rw [World.cell?, h1]; rfl
  have c1 : ∀ n, (w.drewN n).cell? ⟨c, 1, none⟩ = some (.int .i64 k) := fun n => by show w.cell? _ = _; rw [World.cell?, h1]; rfl
  have f1 : ∀ n, (w.drewN n).frozen? ⟨c, 1, none⟩ = false := fun n => by show w.frozen? _ = _; rw [World.frozen?, h1]; rfl
  clear h1
  obtain ⟨X, hX⟩ : ∃ X : ByteArray, (⟨(l.drop k).toArray⟩ : ByteArray) = X := ⟨_, rfl⟩
  have hXl : bl X = l.drop k := by rw [← hX, bl_mk]
  have hXz : X.size ≤ 140737488351232 := by rw [← bl_len, hXl]; simp; omega
  have hb2 := hb.adrop h5 k
  have hsl := fun w => run_slice_from a l.length cap k w h3
  have hcv : ∀ n, (convert 22 9 (.slice (adrop a cap k) (l.length - k) (cap - k))).run Try.prog (w.drewN n) = .ok (.string X) (w.drewN n) := fun n => by
    rw [← hX]; exact conv_str_n _ _ _ _ _ (by simp) (hb2.drewN n)
  have HP := Lib.hid (fun w => hasPrefix_any X t w (by omega) ht)
  rw [hXl] at HP
  have hpl : pre (bl t) (l.drop k) = true → k + t.size ≤ l.length := fun h => by have := pre_len h; rw [bl_len] at this; simp at this; omega
  have HPL := Lib.hid hpl
  clear hX hXl hb hb2 h2 hpl
  generalize adrop a cap k = a2 at *
  cases hp : pre (bl t) (l.drop k) with
  | false =>
    rw [hp] at HP
    clear hp
    go_enter Try.func33, Try.ntmps33
    go_wp2_with fail
    go_quiet ((go_at_call 42; exact Calls.quiet_of_same ((HP.out _).mono fun e w' ⟨h1, h2⟩ => ⟨h1, h2.symm⟩)))
    go_wp2_with fail
    go_ret
    exact ⟨rfl, H.out.kept (drewN_grown w _ none) (by simp), drewN_grown w _ (some c)⟩
  | true =>
    rw [hp] at HP
    have hkt := HPL.out hp
    clear hp
    go_enter Try.func33, Try.ntmps33
    go_wp2_with fail
    go_quiet ((go_at_call 42; exact Calls.quiet_of_same ((HP.out _).mono fun e w' ⟨h1, h2⟩ => ⟨h1, h2.symm⟩)))
    have c1' := c1 nq
    have f1' := f1 nq
    have HM := Lib.hid ((H.out.kept (drewN_grown w nq none) (by simp)).moved (k + t.size) hkt)
    have HG := Lib.hid (drewN_grown w nq (some c))
    clear c0 c1 f1 hcv
    generalize w.drewN nq = w1 at *
    go_wp2_with fail
    go_ret
    exact ⟨rfl, HM.out, grown_trans HG.out (grown_setCell w1 c 1 _)⟩
end Go.Proofs.Ytcmeijeddjckjaa
