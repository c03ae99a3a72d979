/-
  Cursors: New, Peek, Next, Back; pidginref2.In and pidginref1.Bytes. Conditions: those that each theorem names.
-/
import Derived.Test.YtcmeijeddjckjaaCur
import Derived.Lib.Bytealg
import Derived.Laws.Externs
namespace Go.Proofs.Ytcmeijeddjckjaa
open Go.RowKit
set_option linter.unusedVariables false
theorem drewN_add (w : World) (a b : Nat) : ∃ n, (w.drewN a).drewN b = w.drewN n := ⟨a + b, by simp [World.drewN, Nat.add_assoc]⟩
theorem grown_trans {a b d : World} {row : Option Nat} (g : a.grownBy b row) (h : b.grownBy d row) : a.grownBy d row :=
  ⟨h.os.trans g.os, h.tape.trans g.tape, h.output.trans g.output, Nat.le_trans g.size h.size, fun k hk hne => (h.block k (Nat.lt_of_lt_of_le hk g.size) hne).trans (g.block k hk hne)⟩
/-- the byte at a place, 0 behind the end -/
def bat (l : List UInt8) (k : Nat) : Int := if k < l.length then iv (l.getD k 0) else 0
theorem bat_in {l : List UInt8} {k : Nat} (h : k < l.length) : bat l k = iv l[k] := by simp [bat, h]
theorem bat_out {l : List UInt8} {k : Nat} (h : ¬ k < l.length) : bat l k = 0 := by simp [bat, h]
set_option maxHeartbeats 400000 in
theorem peek_any (w : World) (B c : Nat) (l : List UInt8) (k : Nat) (h : Cur w B c l k) :
    Calls Try.prog 35 #[.pointer (some ⟨c, 0, none⟩)] w fun e w' => e = .returned (.tuple #[.int .u8 (bat l k), .bool (decide (k < l.length))]) ∧ ∃ n, w' = w.drewN n := by
  have CL := Lib.hid (left_any w B c l k h)
  obtain ⟨a, cap, h1, h2, h3, h4, -⟩ := h
  have c0 : ∀ n, (w.drewN n).cell? ⟨c, 0, none⟩ = some (.slice a l.length cap) := fun n => by show w.cell? _ = _; rw [World.cell?, h1]; rfl
  have c1 : ∀ n, (w.drewN n).cell? ⟨c, 1, none⟩ = some (.int .i64 k) := fun n => by show w.cell? _ = _; rw [World.cell?, h1]; rfl
  clear h1
  by_cases hlt : k < l.length
  · have E := Lib.hid (bat_in hlt)
    have D := Lib.hid (show decide (k < l.length) = true by simpa using hlt)
    rcases h2 with h2 | ⟨b, off, rfl, -, -, hc⟩
    · rw [h2] at hlt; simp at hlt
    · have hck : ∀ n, (w.drewN n).cell? ⟨b, off + k, none⟩ = some (.int .u8 (iv l[k])) := fun n => hc k hlt
      clear hc
      have hne : ((l.length : Int) - k == 0) = false := by simp; omega
      generalize iv l[k] = x at *
      go_enter Try.func35, Try.ntmps35
      go_wp2_with fail
      refine CL.out.mono ?_; rintro e w' ⟨rfl, n, rfl⟩
      go_wp2_with fail
      have i0 : (0 : Int) ≤ (k : Int) := by omega
      have i1 : (k : Int) < (l.length : Int) := by omega
      have c0' := c0 n
      have c1' := c1 n
      have hck' := hck n
      clear c0 c1 hck
      have HD := Lib.hid (fun m => drewN_add w n m)
      generalize w.drewN n = w1 at *
      go_quiet (fail)
      go_wp2_with fail
      go_ret2
      rw [E.out, D.out]
      exact ⟨rfl, HD.out _⟩
  · have E := Lib.hid (bat_out hlt)
    have D := Lib.hid (show decide (k < l.length) = false by simpa using hlt)
    have hne : ((l.length : Int) - k == 0) = true := by simp; omega
    go_enter Try.func35, Try.ntmps35
    go_wp2_with fail
    refine CL.out.mono ?_; rintro e w' ⟨rfl, n, rfl⟩
    go_wp2_with fail
    go_ret2
    rw [E.out, D.out]
    exact ⟨rfl, _, rfl⟩
set_option maxHeartbeats 400000 in
theorem next_any (w : World) (B c : Nat) (l : List UInt8) (k : Nat) (h : Cur w B c l k) :
    Calls Try.prog 31 #[.pointer (some ⟨c, 0, none⟩)] w fun e w' => e = .returned (.tuple #[.int .u8 (bat l k), .bool (decide (k < l.length))]) ∧ Cur w' B c l (if k < l.length then k + 1 else k) ∧ w.grownBy w' (some c) := by
  have CP := Lib.hid (peek_any w B c l k h)
  have H := Lib.hid h
  obtain ⟨a, cap, h1, -, h3, h4, -⟩ := h
  have c1 : ∀ n, (w.drewN n).cell? ⟨c, 1, none⟩ = some (.int .i64 k) := fun n => by show w.cell? _ = _; rw [World.cell?, h1]; rfl
  have f1 : ∀ n, (w.drewN n).frozen? ⟨c, 1, none⟩ = false := fun n => by show w.frozen? _ = _; rw [World.frozen?, h1]; rfl
  clear h1
  by_cases hlt : k < l.length
  · have HM := Lib.hid (fun n => (H.out.kept (drewN_grown w n none) (by simp)).moved (k + 1) (by omega))
    have hd : decide (k < l.length) = true := by simpa using hlt
    rw [hd] at CP
    clear hd
    generalize bat l k = x at *
    go_enter Try.func31, Try.ntmps31
    go_wp2_with fail
    refine CP.out.mono ?_; rintro e w' ⟨rfl, n, rfl⟩
    have c1' := c1 n
    have f1' := f1 n
    have HM' := Lib.hid (HM.out n)
    have HG := Lib.hid (drewN_grown w n (some c))
    clear c1 f1
    generalize w.drewN n = w1 at *
    go_wp2_with fail
    go_ret2
    exact ⟨rfl, HM'.out, grown_trans HG.out (grown_setCell w1 c 1 _)⟩
  · have hd : decide (k < l.length) = false := by simpa using hlt
    rw [hd] at CP
    clear hd
    generalize bat l k = x at *
    go_enter Try.func31, Try.ntmps31
    go_wp2_with fail
    refine CP.out.mono ?_; rintro e w' ⟨rfl, n, rfl⟩
    clear c1 f1
    go_wp2_with fail
    go_ret2
    exact ⟨rfl, H.out.kept (drewN_grown w n none) (by simp), drewN_grown w n (some c)⟩
def bok (n : Int) (k : Nat) : Bool := decide (0 ≤ n ∧ n ≤ k)
set_option maxHeartbeats 400000 in
theorem back_any (w : World) (B c : Nat) (l : List UInt8) (k : Nat) (n : Int) (h : Cur w B c l k) :
    Calls Try.prog 34 #[.pointer (some ⟨c, 0, none⟩), .int .i64 n] w fun e w' => e = .returned (.bool (bok n k)) ∧ Cur w' B c l (if bok n k then k - n.toNat else k) ∧ w.grownBy w' (some c) := by
  have H := Lib.hid h
  obtain ⟨a, cap, h1, -, h3, h4, -⟩ := h
  have c1 : w.cell? ⟨c, 1, none⟩ = some (.int .i64 k) := by rw [World.cell?, h1]; rfl
  have f1 : w.frozen? ⟨c, 1, none⟩ = false := by rw [World.frozen?, h1]; rfl
  clear h1
  rcases (show n < 0 ∨ (0 ≤ n ∧ (k : Int) < n) ∨ (0 ≤ n ∧ n ≤ k) by omega) with hn | hn | hn
  · have E : bok n k = false := by simp only [bok, decide_eq_false_iff_not]; omega
    go_enter Try.func34, Try.ntmps34
    go_wp2_with fail
    all_goals
      go_ret
      exact ⟨rfl, H.out, ⟨rfl, rfl, rfl, Nat.le_refl _, fun _ _ _ => rfl⟩⟩
  · have E : bok n k = false := by simp only [bok, decide_eq_false_iff_not]; omega
    go_enter Try.func34, Try.ntmps34
    go_wp2_with fail
    all_goals
      go_ret
      exact ⟨rfl, H.out, ⟨rfl, rfl, rfl, Nat.le_refl _, fun _ _ _ => rfl⟩⟩
  · have E : bok n k = true := by simp only [bok, decide_eq_true_eq]; omega
    have HM := Lib.hid (H.out.moved (k - n.toNat) (by omega))
    have hkn : (0 : Int) ≤ (k : Int) - n := by omega
    have HE := Lib.hid (show ((k - n.toNat : Nat) : Int) = (k : Int) - n by omega)
    rw [HE.out] at HM
    go_enter Try.func34, Try.ntmps34
    go_wp2_with fail
    go_ret
    exact ⟨rfl, HM.out, grown_setCell w c 1 _⟩
theorem wpList_append_run {P : Program} {w w' : World} {ops : Array Oper} {rest : List Oper} {o : Oper} {a : Act} {Q : Exit → Act → World → Prop} (hgd : o.guard = none) (s x : Operand) (t : TypeId)
    (ho : o.op = .call { callee := .builtin .append, args := #[s, x], argTypes := #[t, t] }) (v1 v2 v : Value) (hs : a.eval s = v1) (hx : a.eval x = v2)
    (hr : (Builtin.append_ #[t, t] o.type #[v1, v2]).run P w = .ok v w') (h : wpList P ops Q rest (a.put o.dst v) w') : wpList P ops Q (o :: rest) a w :=
  wpList_plain hgd fun _ hK => by
    unfold Oper.wp execOp
    simp only [ho, resolve, invoke, builtin, Sem.run_bind, Sem.run_pure, Result.andThen_ok, List.map_toArray, List.map_cons, List.map_nil, hs, hx, hr]
    exact hK _ _ h
set_option maxHeartbeats 400000 in
theorem new_any (w : World) (a : Option Addr) (l : List UInt8) (cap : Nat) (hl : l.length ≤ cap) (hc : cap ≤ 140737488351232) (hb : HasB w a l) :
    Calls Try.prog 25 #[.slice a l.length cap] w fun e w' => ∃ c, e = .returned (.pointer (some ⟨c, 0, none⟩)) ∧ Cur w' w'.heap.size c l 0 ∧ Below w.heap.size w w' ∧ w.heap.size ≤ c := by
  obtain ⟨a', cap', w1, happ, hown, hl1, hl2, hg⟩ := run_app_nil w a l cap hb (by omega)
  have HA := Lib.hid happ
  have HO := Lib.hid hown
  have HG := Lib.hid (hg none)
  clear hown hg happ
  go_enter Try.func25, Try.ntmps25
  go_wp2_with (at_builtin; refine wpList_append_run rfl _ _ _ rfl _ _ _ rfl rfl HA.out ?_)
  go_ret
  have hg := HG.out
  refine ⟨_, rfl, ⟨a', cap', heap_alloc_new w1 _, ?_, Nat.zero_le _, by omega, hl1, hl2, by simp, Nat.le_refl _⟩, ?_, hg.size⟩
  · rcases HO.out with h | ⟨b, off, ha, h1, h2, h3⟩
    · exact .inl h
    · exact .inr ⟨b, off, ha, by simp; omega, by omega, fun i hi => (World.cell?_of_block (w := w1) (a := ⟨b, off + i, none⟩) (Below.heap_alloc w1 _ b h2)).trans (h3 i hi)⟩
  · exact ((Below.refl _ _).grown hg (Nat.le_refl _) (by simp)).alloc hg.size _
set_option maxHeartbeats 400000 in
theorem bytes_any (w : World) (a1 a2 : Option Addr) (l1 l2 : List UInt8) (c1 c2 : Nat) (h1 : HasB w a1 l1) (h2 : HasB w a2 l2) :
    Calls Try.prog 30 #[.slice a1 l1.length c1, .slice a2 l2.length c2] w fun e w' => e = .returned (.bool (l1 == l2)) ∧ w = w' := by
  have k1 := conv_str w a1 c1 l1 h1
  have k2 := conv_str w a2 c2 l2 h2
  obtain ⟨X, hX⟩ : ∃ X : ByteArray, (⟨l1.toArray⟩ : ByteArray) = X := ⟨_, rfl⟩
  obtain ⟨Y, hY⟩ : ∃ Y : ByteArray, (⟨l2.toArray⟩ : ByteArray) = Y := ⟨_, rfl⟩
  have E := Lib.hid (show (X.toList == Y.toList) = (l1 == l2) by rw [← hX, ← hY, bl_tl, bl_tl, bl_mk, bl_mk])
  rw [hX] at k1; rw [hY] at k2
  clear hX hY
  go_enter Try.func30, Try.ntmps30
  go_wp2_with fail
  go_ret
  rw [← E.out]
  exact ⟨rfl, rfl⟩
def isin (x : Int) (l : List UInt8) : Bool := l.any fun c => iv c == x
theorem isin_yes {x : Int} {l : List UInt8} {k : Nat} (hk : k < l.length) (h : iv l[k] = x) : isin x l = true := by
  rw [isin, List.any_eq_true]; exact ⟨l[k], List.getElem_mem hk, by simp [h]⟩
theorem isin_no {x : Int} {l : List UInt8} (h : ∀ i (hi : i < l.length), ¬ iv l[i] = x) : isin x l = false := by
  rw [isin, List.any_eq_false]
  intro c hc
  obtain ⟨i, hi, rfl⟩ := List.mem_iff_getElem.1 hc
  simpa using h i hi
set_option maxHeartbeats 400000 in
theorem in_any (x : Int) (s : ByteArray) (w : World) (hx0 : 0 ≤ x) (hx1 : x ≤ 255) (hs : s.size ≤ 9223372036854775807) :
    Calls Try.prog 28 #[.int .u8 x, .string s] w fun e w' => e = .returned (.bool (isin x (bl s))) ∧ w = w' := by
  have hat : ∀ j (hj : j < s.size), (s[j].toNat : Int) = iv ((bl s)[j]'(by rw [bl_len]; exact hj)) := fun j hj => rfl
  have HL := Lib.hid (bl_len s)
  go_enter Try.func28, Try.ntmps28
  go_wp2_with fail
  go_loop [8] (fun k => ∃ j : Nat, j ≤ s.size ∧ (∀ i (hi : i < (bl s).length), i < j → ¬ iv (bl s)[i] = x) ∧ k = .int .i64 j) (fun k => s.size - (intOf k).toNat)
  case atStart => exact ⟨0, by omega, by omega, rfl⟩
  case round =>
    obtain ⟨j, hj, hall, rfl⟩ := hrel
    have HA := Lib.hid hall; clear hall
    by_cases hlt : j < s.size
    · have hlt' : j < (bl s).length := by rw [HL.out]; exact hlt
      have hy := hat j hlt
      have HY := Lib.hid hy; clear hy hat
      by_cases he : (s[j].toNat : Int) = x
      · have heb : ((s[j].toNat : Int) == x) = true := by simpa using he
        have HE := Lib.hid (isin_yes hlt' (HY.out.symm.trans he))
        clear he
        go_wp2_with fail
        go_ret
        rw [HE.out]; exact ⟨rfl, rfl⟩
      · have heb : ((s[j].toNat : Int) == x) = false := by simpa using he
        have HE := Lib.hid (show ∀ i (hi : i < (bl s).length), i < j + 1 → ¬ iv (bl s)[i] = x by
          intro i hi hij
          rcases Nat.lt_or_ge i j with h1 | h1
          · exact HA.out i hi h1
          · obtain rfl : i = j := by omega
            rw [← HY.out]; exact he)
        clear he
        go_wp2_with fail
        go_round
        case rel => exact ⟨j + 1, by omega, HE.out, by go_num⟩
        case measure => simp [intOf]; omega
    · have HE := Lib.hid (isin_no (x := x) (l := bl s) (fun i hi => HA.out i hi (by rw [HL.out] at hi; omega)))
      clear hat
      go_wp2_with fail
      go_ret
      rw [HE.out]; exact ⟨rfl, rfl⟩
theorem index_isin (x : Int) (h0 : 0 ≤ x) (h1 : x ≤ 255) (l : List UInt8) : decide (0 ≤ Lib.indexByte l x.toNat.toUInt8) = isin x l ∧ -1 ≤ Lib.indexByte l x.toNat.toUInt8 := by
  have hx : iv x.toNat.toUInt8 = x := iv_toB h0 h1
  generalize x.toNat.toUInt8 = c at *
  induction l with
  | nil => exact ⟨rfl, by simp [Lib.indexByte]⟩
  | cons b l ih =>
    unfold Lib.indexByte
    simp only [isin, List.any_cons]
    by_cases hb : b = c
    · subst hb; simp [hx]
    · have hne : (iv b == x) = false := by
        rw [Bool.eq_false_iff]; simp only [ne_eq, beq_iff_eq]
        intro h; exact hb (iv_inj (h.trans hx.symm))
      have hbc : (b == c) = false := by simpa using hb
      rw [hne, hbc]
      simp only [Bool.false_eq_true, if_false, Bool.false_or]
      have := ih.1
      unfold isin at this
      rw [← this]
      by_cases hr : Lib.indexByte l c = -1
      · simp [hr]
      · have h2 := ih.2
        have : (Lib.indexByte l c == -1) = false := by simpa using hr
        rw [this]; simp only [Bool.false_eq_true, if_false]
        constructor
        · rw [decide_eq_decide]; omega
        · omega
theorem run47 (s : ByteArray) (c : Int) (w : World) : (callFunc 47 #[.string s, .int .u8 c]).run Try.prog w = .ok (.value (.int .i64 (Lib.indexByte s.data.toList c.toNat.toUInt8))) w := by
  rw [run_callFunc_extern (e := Extern.BytealgIndexByte.indexByte) Try.func47 rfl rfl rfl rfl, Lib.run_indexByteString]; rfl
set_option maxHeartbeats 400000 in
theorem index_any (x : Int) (s : ByteArray) (w : World) (h0 : 0 ≤ x) (h1 : x ≤ 255) :
    Calls Try.prog 44 #[.string s, .int .u8 x] w fun e w' => ∃ r, e = .returned (.int .i64 r) ∧ decide (0 ≤ r) = isin x (bl s) ∧ -1 ≤ r ∧ w = w' := by
  have h47 := run47 s x
  have HI := Lib.hid (index_isin x h0 h1 (bl s))
  have e : Lib.indexByte s.data.toList x.toNat.toUInt8 = Lib.indexByte (bl s) x.toNat.toUInt8 := rfl
  rw [e] at h47
  generalize Lib.indexByte (bl s) x.toNat.toUInt8 = r at *
  clear e
  go_enter Try.func44, Try.ntmps44
  go_wp2
  go_ret
  exact ⟨r, rfl, HI.out.1, HI.out.2, rfl⟩
end Go.Proofs.Ytcmeijeddjckjaa
