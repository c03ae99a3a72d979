/-
  Quote; the conversions between strings and bytes. Conditions: those that each theorem names.
-/
import Derived.Test.YtafmhhhboihdfaaDoorLaw2
import Derived.Test.YtafmhhhboihdfaaDoorApp
import Derived.Laws.IdiomStrings
namespace Go.Proofs.YtafmhhhboihdfaaDoor
open Go.RowKit
set_option linter.unusedVariables false
theorem conv_str (w : World) (a : Option Addr) (n cap : Nat) (l : List UInt8) (hn : l.length = n) (h : HasB w a l) : (convert 22 9 (.slice a n cap)).run Tryd.prog w = .ok (.string ⟨l.toArray⟩) w := by
  subst hn
  rcases h with rfl | ⟨b, off, rfl, _, hc⟩
  · cases a with
    | none => rw [run_convert_bytes_string w 22 9 5 none _ cap Tryd.underlying22 Tryd.underlying5 Tryd.underlying9]; simp [Conv.bytesToString]; rfl
    | some a => exact run_convert_bytes_back w 22 9 5 a cap [] Tryd.underlying22 Tryd.underlying5 Tryd.underlying9 (fun j hj => absurd hj (by simp))
  · refine run_convert_bytes_back w 22 9 5 ⟨b, off, none⟩ cap l Tryd.underlying22 Tryd.underlying5 Tryd.underlying9 fun j hj => ?_
    rw [add_off]; exact hc j hj
/-- a string's bytes, as '[]byte(s)' lays them -/
theorem bytes_of (w : World) (s : ByteArray) (hs : s.size ≤ 140737488351232) : ∃ (cap : Nat) (C : Array Value) (fz : Nat × Nat), (convert 9 22 (.string s)).run Tryd.prog w = .ok (.slice (some ⟨w.heap.size, 0, none⟩) s.size cap) ((w.alloc (.cells C 5 fz)).drew) ∧
    HasB ((w.alloc (.cells C 5 fz)).drew) (some ⟨w.heap.size, 0, none⟩) (bl s) ∧ s.size ≤ cap ∧ cap ≤ 9223372036854775807 ∧ Below w.heap.size w ((w.alloc (.cells C 5 fz)).drew) := by
  refine ⟨_, _, _, run_bytes_of_string (P := Tryd.prog) w 9 22 5 s Tryd.underlying9 Tryd.underlying22 Tryd.underlying5, ?_, grownCap_ge _ _ _ _, ?_, ((Below.refl _ _).alloc (Nat.le_refl _) _).drew⟩
  · refine .inr ⟨_, 0, rfl, by simp, fun i hi => ?_⟩
    have hi' : i < s.size := by rwa [bl_len] at hi
    have hd : i < s.data.size := hi'
    have h1 : ((w.alloc (.cells (bytesRow s (grownCap w s.size 0 5)) 5 ((bytesRow s (grownCap w s.size 0 5)).size, (bytesRow s (grownCap w s.size 0 5)).size + 1))).drew).cell? ⟨w.heap.size, 0 + i, none⟩ = (bytesRow s (grownCap w s.size 0 5))[0 + i]? := cell_of_heap (heap_alloc_new w _)
    rw [h1, Nat.zero_add, bytesRow, Array.getElem?_append_left (by simpa using hd)]
    have e : s.data[i]? = some s.data[i] := Array.getElem?_eq_getElem hd
    simp only [Array.getElem?_map, e, Option.map_some]
    simp [bl, iv]
  · have := grownCap_le_maxLen w s.size 0 5 (by simp [maxLen]; omega)
    simpa [maxLen] using this
set_option maxRecDepth 100000 in
set_option maxHeartbeats 1600000 in
theorem quote_any (w : World) (s : ByteArray) (hs : s.size ≤ 1048576) :
    Calls Tryd.prog 15 #[.string s] w fun e w' => e = .returned (.string ⟨(quoteS (bl s)).toArray⟩) ∧ Below w.heap.size w w' := by
  have hlen := bl_len s
  have hat : ∀ j (hj : j < s.size), ((bl s).take (j + 1) = (bl s).take j ++ [s[j]]) := fun j hj => by
    rw [take_snoc _ _ (by rw [bl_len]; exact hj)]; rfl
  have HA := Lib.hid hat
  have HL := Lib.hid hlen
  have HCV := Lib.hid (fun (W : World) (a : Option Addr) (n cap : Nat) (l : List UInt8) (hn : l.length = n) (h : HasB W a l) => conv_str W a n cap l hn h)
  clear hat hlen
  go_enter Tryd.func15, Tryd.ntmps15
  go_wp2_with fail
  go_loopw [3, 7] (fun o k wr => ∃ j : Nat, k = .int .i64 j ∧ j ≤ s.size ∧ App wr w.heap.size o (quoteS ((bl s).take j)).length (quoteS ((bl s).take j)) ∧ Below w.heap.size w wr) (fun _ k _ => s.size - (intOf k).toNat)
  case atStart => exact ⟨0, rfl, Nat.zero_le _, .inr (World.ownsRow_nil _ _ _ _), Below.refl _ _⟩
  case round =>
    obtain ⟨j, rfl, hj, happ, hbel⟩ := hrel
    have HB := Lib.hid hbel
    have HAP := Lib.hid happ
    clear hbel happ
    by_cases hlt : j < s.size
    · have hltI : (j : Int) < (s.size : Int) := by omega
      have HE := Lib.hid (HA.out j hlt)
      have hqb : (quoteS ((bl s).take j)).length ≤ 2097152 := by have := (quote_len ((bl s).take j)).1; simp [HL.out] at this; omega
      obtain ⟨c, hcc⟩ : ∃ c, s[j]'hlt = c := ⟨_, rfl⟩
      rw [hcc] at HE
      have HCC := Lib.hid hcc
      clear hcc
      have HQ := Lib.hid (show quoteS ((bl s).take (j + 1)) = quoteS ((bl s).take j) ++ quoteS [c] by rw [HE.out, quote_append])
      generalize quoteS ((bl s).take j) = q at *
      obtain ⟨nq, hnq⟩ : ∃ nq, q.length = nq := ⟨_, rfl⟩
      rw [hnq] at HAP hqb
      have HNQ := Lib.hid hnq
      clear hnq
      have hn92 : HasB (wr.alloc (.cells #[.int .u8 92] 5)) (some ⟨wr.heap.size, 0, none⟩) [92] := hasB_new wr [92] _ _ rfl
      obtain ⟨x, hx⟩ : ∃ x : Int, ((s[j]'hlt).toNat : Int) = x := ⟨_, rfl⟩
      have hx0 : 0 ≤ x := by omega
      have hx1 : x ≤ 255 := by have := (s[j]'hlt).toNat_lt; omega
      have HX := Lib.hid (show iv c = x by rw [← HCC.out]; exact hx)
      by_cases hsp : c = 42 ∨ c = 63 ∨ c = 91 ∨ c = 92
      · obtain ⟨v1, W1, h11, h12, h13⟩ := app_more (wr.alloc (.cells #[.int .u8 92] 5)) w.heap.size u3 nq q (HAP.out.below ((Below.refl _ _).alloc (Nat.le_refl _) _)) HNQ.out (some ⟨wr.heap.size, 0, none⟩) 1 1 [92] hn92 rfl (by omega) (by have := HB.out.size; simp; omega)
        have b1 : Below w.heap.size w W1 := (HB.out.alloc HB.out.size _).trans h13
        have hnc : HasB (W1.alloc (.cells #[.int .u8 x] 5)) (some ⟨W1.heap.size, 0, none⟩) [c] := hasB_new W1 [c] _ _ (by simp [HX.out])
        obtain ⟨v2, W2, h21, h22, h23⟩ := app_more (W1.alloc (.cells #[.int .u8 x] 5)) w.heap.size v1 (nq + 1) (q ++ [92]) (h12.below ((Below.refl _ _).alloc (Nat.le_refl _) _)) (by simp [HNQ.out]) (some ⟨W1.heap.size, 0, none⟩) 1 1 [c] hnc rfl (by omega) (by have := b1.size; simp; omega)
        have HA1 := Lib.hid h11
        have HA2 := Lib.hid h21
        have HAN := Lib.hid (show App W2 w.heap.size v2 (quoteS ((bl s).take (j + 1))).length (quoteS ((bl s).take (j + 1))) by
          have e : quoteS ((bl s).take (j + 1)) = q ++ [92] ++ [c] := by rw [HQ.out, quoteS, if_pos hsp]; simp [quoteS]
          rw [e]; simpa [HNQ.out] using h22)
        have HBN := Lib.hid ((b1.alloc b1.size _).trans h23)
        have h4 : x = 42 ∨ x = 63 ∨ x = 91 ∨ x = 92 := by
          have e := HX.out
          rcases hsp with h | h | h | h
          · rw [h] at e; exact .inl e.symm
          · rw [h] at e; exact .inr (.inl e.symm)
          · rw [h] at e; exact .inr (.inr (.inl e.symm))
          · rw [h] at e; exact .inr (.inr (.inr e.symm))
        clear h11 h12 h13 h21 h22 h23 b1 hnc hn92 hsp HX HQ HE HCC
        rcases h4 with rfl | rfl | rfl | rfl
        all_goals
          clear hx0 hx1
          go_wp2_with (first | (at_builtin; refine wpList_append_run rfl (.tmp 18) (.tmp 19) _ rfl _ _ _ rfl rfl HA1.out ?_) | (at_builtin; refine wpList_append_run rfl (.tmp 21) (.tmp 25) _ rfl _ _ _ rfl rfl HA2.out ?_))
          go_roundw
          case rel => exact ⟨j + 1, by go_num, by omega, HAN.out, HBN.out⟩
          case measure => simp [intOf]; omega
      · have hnc : HasB (wr.alloc (.cells #[.int .u8 x] 5)) (some ⟨wr.heap.size, 0, none⟩) [c] := hasB_new wr [c] _ _ (by simp [HX.out])
        obtain ⟨v2, W2, h21, h22, h23⟩ := app_more (wr.alloc (.cells #[.int .u8 x] 5)) w.heap.size u3 nq q (HAP.out.below ((Below.refl _ _).alloc (Nat.le_refl _) _)) HNQ.out (some ⟨wr.heap.size, 0, none⟩) 1 1 [c] hnc rfl (by omega) (by have := HB.out.size; simp; omega)
        have HA2 := Lib.hid h21
        have HAN := Lib.hid (show App W2 w.heap.size v2 (quoteS ((bl s).take (j + 1))).length (quoteS ((bl s).take (j + 1))) by
          have e : quoteS ((bl s).take (j + 1)) = q ++ [c] := by rw [HQ.out, quoteS, if_neg hsp]; simp [quoteS]
          rw [e]; simpa [HNQ.out] using h22)
        have HBN := Lib.hid ((HB.out.alloc HB.out.size _).trans h23)
        have i1 : ¬ x = 42 := fun e => hsp (.inl (iv_inj (HX.out.trans e)))
        have i2 : ¬ x = 63 := fun e => hsp (.inr (.inl (iv_inj (HX.out.trans e))))
        have i3 : ¬ x = 91 := fun e => hsp (.inr (.inr (.inl (iv_inj (HX.out.trans e)))))
        have i4 : ¬ x = 92 := fun e => hsp (.inr (.inr (.inr (iv_inj (HX.out.trans e)))))
        clear h21 h22 h23 hnc hn92 hsp HX HQ HE HCC
        go_wp2_with (first | (at_builtin; refine wpList_append_run rfl (.tmp 21) (.tmp 25) _ rfl _ _ _ rfl rfl HA2.out ?_))
        go_roundw
        case rel => exact ⟨j + 1, by go_num, by omega, HAN.out, HBN.out⟩
        case measure => simp [intOf]; omega
    · have hltI : ¬ (j : Int) < (s.size : Int) := by omega
      have hjs : j = s.size := by omega
      have hq : (bl s).take j = bl s := List.take_of_length_le (by rw [HL.out]; omega)
      rw [hq] at HAP
      have hqb : (quoteS (bl s)).length ≤ 2097152 := by have := (quote_len (bl s)).1; rw [HL.out] at this; omega
      obtain ⟨a, cap, rfl, h1, h2, h3⟩ := HAP.out.out rfl (by simp [maxLen]; omega)
      have hcv := HCV.out wr a _ cap (quoteS (bl s)) rfl h1
      clear hq hqb HAP
      obtain ⟨nq, hnq⟩ : ∃ nq, (quoteS (bl s)).length = nq := ⟨_, rfl⟩
      rw [hnq] at hcv h2 ⊢
      obtain ⟨q, hqq⟩ : ∃ q : ByteArray, ⟨(quoteS (bl s)).toArray⟩ = q := ⟨_, rfl⟩
      rw [hqq] at hcv
      have HQQ := Lib.hid hqq
      clear hnq hqq h1 hjs
      go_wp2_with fail
      go_ret
      exact ⟨by rw [HQQ.out]; rfl, HB.out⟩
end Go.Proofs.YtafmhhhboihdfaaDoor
