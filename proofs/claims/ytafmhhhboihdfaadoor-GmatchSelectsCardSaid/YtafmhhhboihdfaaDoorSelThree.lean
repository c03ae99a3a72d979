/-
  Joined texts: The document's answer: Select. Conditions: those that each theorem names.
  The law GmatchSelects: its walk. Conditions: those that each theorem names.
-/
import Derived.Test.YtafmhhhboihdfaaDoorSelOne
import Derived.Test.YtafmhhhboihdfaaDoorRPat
import Derived.Test.YtafmhhhboihdfaaDoorRPref
import Derived.Test.YtafmhhhboihdfaaDoorSelTwo
import Derived.Deep.CutBlock
import Derived.Deep.DeepCutAuto
import Derived.Outline
namespace Go.Proofs.YtafmhhhboihdfaaDoor
open Go.RowKit
set_option linter.unusedVariables false
theorem put_len (s : List UInt8) (l : List (List UInt8)) : (putS s l).length ≤ l.length + 1 := by
  induction l with
  | nil => simp [putS]
  | cons x l ih =>
    rw [putS]
    split
    · simp; omega
    · split <;> simp
theorem puts_len (l : List (List UInt8)) : (putsS l).length ≤ l.length := by
  suffices h : ∀ (n : Nat) (l : List (List UInt8)), l.length = n → (putsS l).length ≤ n from h _ l rfl
  intro n
  induction n with
  | zero => intro l hl; rw [List.length_eq_zero_iff.1 hl]; simp [putsS]
  | succ n ih =>
    intro l hl
    rcases List.eq_nil_or_concat l with rfl | ⟨m, x, rfl⟩
    · simp at hl
    rw [List.concat_eq_append] at hl ⊢
    rw [puts_snoc]
    have h1 := put_len x (putsS m)
    have h2 := ih m (by simpa using hl)
    omega
set_option maxRecDepth 100000 in
set_option maxHeartbeats 3200000 in
theorem rselect_any (w : World) (a : Option Addr) (n cap : Nat) (l : List Pc) (hn : l.length = n) (hp : HasP w w.heap.size a l) (hlc : n ≤ cap) (hc : cap ≤ 9223372036854775807)
    (aN : Option Addr) (m capN : Nat) (L : List (List UInt8)) (hL : HasS w aN L) (hm : L.length = m) (hmc : m ≤ capN) (hcN : capN ≤ 9223372036854775807) (hm4 : m ≤ 4095) (hshort : ∀ x ∈ L, x.length ≤ 4096) :
    Calls Tryd.prog 27 #[.slice a n cap, .slice aN m capN] w fun e w' => ∃ a' n' c', e = .returned (.slice a' n' c') ∧ (putsS (L.filter (keepS l))).length = n' ∧ HasS w' a' (putsS (L.filter (keepS l))) ∧ n' ≤ c' ∧ c' ≤ maxLen ∧ Below w.heap.size w w' := by
  go_enter Tryd.func27, Tryd.ntmps27
  go_upto_region 3 with fail
  go_cut [6] (fun d wx => d = .bool (dotS l) ∧ Below w.heap.size w wx)
  case first =>
    cases l with
    | nil =>
      obtain rfl : n = 0 := hn.symm
      go_wp2_with fail
      go_quiet (fail)
      go_wp2_with fail
      go_meet
      case rel => exact ⟨rfl, rfl, rfl, rfl, Nat.le_refl _, fun _ _ => rfl⟩
    | cons p t =>
      have hn0 : 0 < n := by simp at hn; omega
      have hn1 : decide (0 < n) = true := decide_eq_true hn0
      rcases hp with hE | ⟨b, off, rfl, hbl, -, hcs⟩
      · simp at hE
      obtain ⟨q0, q1, q2, q3, q4⟩ := hcs 0 (by simp)
      simp only [List.getElem_cons_zero, Nat.zero_mul, Nat.add_zero] at q0 q1 q2 q3 q4
      have HH := Lib.hid (fun W => rone_any 46 W)
      by_cases hk : p.kind = 1
      · have hk' : (p.kind == 1) = true := by simpa using hk
        have HD := Lib.hid (show dotS (p :: t) = decide (p.set = bit 46) by simp [dotS, hk])
        rw [show (46 : UInt8).toNat = 46 from rfl, show iv 46 = 46 from rfl] at HH
        have hEQ := fun W => eq_sets p.set (bit 46) W
        generalize decide (p.set = bit 46) = D at *
        have q0d : w.drew.cell? ⟨b, off, none⟩ = _ := q0
        have q1d : w.drew.cell? ⟨b, off + 1, none⟩ = _ := q1
        have q2d : w.drew.cell? ⟨b, off + 2, none⟩ = _ := q2
        have q3d : w.drew.cell? ⟨b, off + 3, none⟩ = _ := q3
        have q4d : w.drew.cell? ⟨b, off + 4, none⟩ = _ := q4
        have HGL := Lib.hid (show b < w.drew.heap.size from hbl)
        have HB1 := Lib.hid (show Below w.heap.size w w.drew from (Below.refl _ _).drew)
        clear q0 q1 q2 q3 q4 hk hcs hn
        go_upto_region 2 with fail
        go_region_law (first
          | (go_simp; go_at_call_of 36 (Value.int .u8 46); refine (HH.out _).mono ?_; rintro e w2 ⟨rfl, b2⟩; have HB2 := Lib.hid (HB1.out.trans (b2.mono HB1.out.size)); have q1e := (b2.cell (p := ⟨b, off + 1, none⟩) HGL.out).trans q1d; have q2e := (b2.cell (p := ⟨b, off + 2, none⟩) HGL.out).trans q2d; have q3e := (b2.cell (p := ⟨b, off + 3, none⟩) HGL.out).trans q3d; have q4e := (b2.cell (p := ⟨b, off + 4, none⟩) HGL.out).trans q4d; clear b2))
        all_goals
          go_wp2_with fail
          go_meet
          case rel => exact ⟨by rw [HD.out], HB2.out⟩
      · have hk' : (p.kind == 1) = false := by simpa using hk
        have HD := Lib.hid (show dotS (p :: t) = false by simp [dotS, hk])
        clear hk hcs hn
        go_wp2_with fail
        go_quiet (fail)
        go_wp2_with fail
        go_meet
        case rel => exact ⟨by rw [HD.out], rfl, rfl, rfl, Nat.le_refl _, fun _ _ => rfl⟩
  case rest =>
    obtain ⟨rfl, hb2⟩ := hcut
    have HB2 := Lib.hid hb2
    have HL := Lib.hid hL
    have HM := Lib.hid hm
    have HSH := Lib.hid hshort
    have HMT := Lib.hid (fun (W : World) (bs : List UInt8) (aS : Option Addr) (k c : Nat) (hW : Below w.heap.size w W) (hbs : HasB W aS bs) (hk : bs.length = k) (hk2 : k ≤ 4096) (hkc : k ≤ c) (hc' : c ≤ 9223372036854775807) => rmatch_any W a cap n l aS k c bs hn (hp.below hW).top hlc hc hbs hk hkc (by omega) hc')
    obtain ⟨D, hD⟩ : ∃ D, dotS l = D := ⟨_, rfl⟩
    have HKD := Lib.hid hD
    rw [hD]
    clear hb2 hL hm hshort hp hn hD
    go_wp2_with fail
    go_loopw [5, 30] (fun y x wr => ∃ (v : Value) (j : Nat), v = y ∧ x = .int .i64 j ∧ j ≤ m ∧ (∃ a' c', v = .slice a' (putsS ((L.take j).filter (keepS l))).length c' ∧ HasS wr a' (putsS ((L.take j).filter (keepS l))) ∧ (putsS ((L.take j).filter (keepS l))).length ≤ c' ∧ c' ≤ maxLen) ∧ Below w.heap.size w wr) (fun _ x _ => m - (intOf x).toNat)
    case atStart => exact ⟨_, 0, rfl, rfl, by omega, ⟨none, 0, rfl, .inl rfl, Nat.le_refl _, by unfold maxLen; omega⟩, HB2.out⟩
    case round =>
      obtain ⟨v, j, rfl, rfl, hj, ⟨aO, cO, rfl, hO, hO1, hO2⟩, hbel⟩ := hrel
      have HO := Lib.hid hO
      have HB3 := Lib.hid hbel
      have HO1 := Lib.hid hO1
      have HO2 := Lib.hid hO2
      clear hO hbel HB2 hO1 hO2
      by_cases hlt : j < m
      · have hjI : (j : Int) < (m : Int) := by omega
        have hj0 : (0 : Int) ≤ (j : Int) := by omega
        have hjl : j < L.length := by rw [HM.out]; exact hlt
        rcases HL.out.below HB3.out with hE | ⟨bN, oN, rfl, hbN, hx⟩
        · rw [hE] at hjl; simp at hjl
        obtain ⟨x, cx, hbx⟩ := cell_str (hx j hjl)
        have hsx : x.size ≤ 4096 := by rw [← bl_len, hbx]; exact HSH.out _ (List.getElem_mem hjl)
        have HTK := Lib.hid (show putsS ((L.take (j + 1)).filter (keepS l)) = if keepS l (bl x) then putS (bl x) (putsS ((L.take j).filter (keepS l))) else putsS ((L.take j).filter (keepS l)) by
          rw [hbx, List.take_add_one, List.getElem?_eq_getElem hjl, List.filter_append]
          simp only [Option.toList_some, List.filter_cons, List.filter_nil]
          split
          · rw [puts_snoc]
          · rw [List.append_nil])
        have HKX := Lib.hid (show keepS l (bl x) = ((D || !Lib.hasPrefix (bl x) [46]) && mat l (bl x)) by rw [← HKD.out]; rfl)
        have hfl : (putsS ((L.take j).filter (keepS l))).length ≤ 4095 := by
          have h1 := puts_len ((L.take j).filter (keepS l))
          have h2 := List.length_filter_le (keepS l) (L.take j)
          rw [List.length_take] at h2; omega
        clear hx hbx
        generalize putsS ((L.take j).filter (keepS l)) = F at *
        generalize keepS l (bl x) = kp at *
        obtain ⟨capX, CX, fzX, hcv, hHB, hcX1, hcX2, hbX⟩ := bytes_of wr x (by omega)
        have HMX := Lib.hid (HMT.out _ (bl x) _ x.size capX (HB3.out.trans (hbX.mono HB3.out.size)) hHB (bl_len x) hsx hcX1 hcX2)
        have HBX := Lib.hid (HB3.out.trans (hbX.mono HB3.out.size))
        have HOX := Lib.hid (HO.out.below hbX)
        generalize mat l (bl x) = mt at *
        clear hHB hbX
        go_wp2_with fail
        generalize (wr.alloc (.cells CX 5 fzX)).drew = WX at *
        refine HMX.out.mono ?_; rintro e w3 ⟨rfl, hb3⟩
        have HBN := Lib.hid (HBX.out.trans (hb3.mono HBX.out.size))
        have HON := Lib.hid (HOX.out.below hb3)
        have HPT := Lib.hid (rput_any w3 aO F.length cO F x rfl HON.out HO1.out HO2.out (by omega))
        clear hb3
        cases mt
        · have HKV := Lib.hid (show kp = false by rw [HKX.out]; simp)
          go_wp2_with fail
          go_roundw
          case rel => exact ⟨_, j + 1, rfl, by go_num, by omega, by rw [HTK.out, HKV.out]; exact ⟨aO, cO, rfl, HON.out, HO1.out, HO2.out⟩, HBN.out⟩
          case measure => simp [intOf]; omega
        · cases D
          · cases hcs : bl x with
            | nil =>
              have HKV := Lib.hid (show kp = true by rw [HKX.out, hcs]; rfl)
              have hxe : (x.toList == ([] : List UInt8)) = true := by rw [toList_bl, hcs]; rfl
              obtain rfl : x = ⟨#[]⟩ := by
                unfold bl at hcs
                cases x; simp at hcs; rw [hcs]
              clear hcs HKX HKD
              go_wp2_with fail
              refine HPT.out.mono ?_; rintro e w4 ⟨a4, n4, c4, rfl, hn4, hS4, h41, h42, hb4⟩
              subst hn4
              have HB4 := Lib.hid (HBN.out.trans (hb4.mono HBN.out.size))
              have HS4 := Lib.hid hS4
              clear hb4 hS4
              go_wp2_with fail
              go_roundw
              case rel => exact ⟨_, j + 1, rfl, by go_num, by omega, by rw [HTK.out, if_pos HKV.out]; exact ⟨a4, c4, rfl, HS4.out, h41, h42⟩, HB4.out⟩
              case measure => simp [intOf]; omega
            | cons c t =>
              have hxl : x.toList = c :: t := by rw [toList_bl, hcs]
              have hx0 : 0 < x.size := by rw [← bl_len, hcs]; simp
              have hxc : x[0] = c := by
                have h1 : (bl x)[0]'(by rw [bl_len]; exact hx0) = c := by simp only [hcs, List.getElem_cons_zero]
                exact h1
              by_cases h46 : c = 46
              · have HKV := Lib.hid (show kp = false by rw [HKX.out, hcs, h46]; rfl)
                have hx46 : ((x[0].toNat : Int) != 46) = false := by rw [hxc, h46]; rfl
                clear hcs HKX HKD hxc
                go_wp2_with fail
                go_roundw
                case rel => exact ⟨_, j + 1, rfl, by go_num, by omega, by rw [HTK.out, HKV.out]; exact ⟨aO, cO, rfl, HON.out, HO1.out, HO2.out⟩, HBN.out⟩
                case measure => simp [intOf]; omega
              · have HKV := Lib.hid (show kp = true by
                  have h2 : ((46 : UInt8) == c) = false := by rw [beq_eq_false_iff_ne]; exact fun e => h46 e.symm
                  rw [HKX.out, hcs]; simp [Lib.hasPrefix, List.isPrefixOf, h2])
                have hx46 : ((x[0].toNat : Int) != 46) = true := by
                  rw [hxc, bne_iff_ne]
                  intro e; apply h46
                  have e2 : c.toNat = 46 := by omega
                  exact UInt8.toNat_inj.1 e2
                clear hcs HKX HKD hxc
                go_wp2_with fail
                refine HPT.out.mono ?_; rintro e w4 ⟨a4, n4, c4, rfl, hn4, hS4, h41, h42, hb4⟩
                subst hn4
                have HB4 := Lib.hid (HBN.out.trans (hb4.mono HBN.out.size))
                have HS4 := Lib.hid hS4
                clear hb4 hS4
                go_wp2_with fail
                go_roundw
                case rel => exact ⟨_, j + 1, rfl, by go_num, by omega, by rw [HTK.out, if_pos HKV.out]; exact ⟨a4, c4, rfl, HS4.out, h41, h42⟩, HB4.out⟩
                case measure => simp [intOf]; omega
          · have HKV := Lib.hid (show kp = true by rw [HKX.out]; rfl)
            clear HKX HKD
            go_wp2_with fail
            refine HPT.out.mono ?_; rintro e w4 ⟨a4, n4, c4, rfl, hn4, hS4, h41, h42, hb4⟩
            subst hn4
            have HB4 := Lib.hid (HBN.out.trans (hb4.mono HBN.out.size))
            have HS4 := Lib.hid hS4
            clear hb4 hS4
            go_wp2_with fail
            go_roundw
            case rel => exact ⟨_, j + 1, rfl, by go_num, by omega, by rw [HTK.out, if_pos HKV.out]; exact ⟨a4, c4, rfl, HS4.out, h41, h42⟩, HB4.out⟩
            case measure => simp [intOf]; omega
      · have hjI : ¬ (j : Int) < (m : Int) := by omega
        obtain rfl : j = m := by omega
        have HTK := Lib.hid (show L.take j = L by rw [← HM.out, List.take_length])
        rw [HTK.out] at HO HO1
        go_wp2_with fail
        go_ret
        exact ⟨aO, _, cO, rfl, by rw [HTK.out], HO.out, by rw [HTK.out]; exact HO1.out, HO2.out, HB3.out⟩
end Go.Proofs.YtafmhhhboihdfaaDoor
namespace Go.Proofs.YtafmhhhboihdfaaDoor
open Go.RowKit
set_option linter.unusedVariables false
/-- the names that are short enough -/
def shortS (l : List (List UInt8)) : List (List UInt8) := l.filter fun s => decide (s.length ≤ 60)
theorem HasS.toN {w : World} {a : Option Addr} {l : List (List UInt8)} (h : HasS w a l) : HasN w a (l.map fun x => (⟨x.toArray⟩ : ByteArray)) := by
  rcases h with h | ⟨b, off, ha, hlt, hc⟩
  · exact .inl (by rw [h]; rfl)
  · refine .inr ⟨b, off, ha, hlt, fun i hi => ?_⟩
    rw [hc i (by simpa using hi), List.getElem_map]; try rfl
theorem select_read {w W : World} {v : Value} {l : List Pc} (h : PtW w W v l) (hl : l.length ≤ 4096) (W' : World) (hb : Below W.heap.size W W') (aN : Option Addr) (m capN : Nat) (L : List (List UInt8)) (hL : HasS W' aN L) (hm : L.length = m) (hmc : m ≤ capN) (hcN : capN ≤ 9223372036854775807) (hm4 : m ≤ 4096) (hshort : ∀ x ∈ L, x.length ≤ 4096) :
    Calls Tryd.prog 25 #[.pointer (some ⟨w.heap.size, 0, none⟩), .slice aN m capN] W' fun e w' => ∃ a' n' , e = .returned (.slice a' n' n') ∧ (putsS (L.filter (keepS l))).length = n' ∧ HasS w' a' (putsS (L.filter (keepS l))) ∧ n' ≤ maxLen ∧ Below W'.heap.size W' w' := by
  obtain ⟨a, cap, -, hq, hp⟩ := (h.below hb).out
  exact select_any W' w.heap.size W'.heap.size a l.length cap l rfl hl hq hp (Nat.le_refl _) aN m capN L hL hm hmc hcN hm4 hshort
theorem own_kept {w w' : World} {base : Nat} {e : TypeId} {size : Nat} {v : Value} {n : Nat} {xs : List Value} (h : w.ownsRow base e size v n xs) (b : Below w.heap.size w w') : w'.ownsRow base e size v n xs := by
  obtain ⟨h1, h2⟩ := h
  refine ⟨h1, ?_⟩
  rcases h2 with h2 | ⟨gg, cp, cur, e1, e2, e3, e4⟩
  · exact .inl h2
  · exact .inr ⟨gg, cp, cur, e1, e2, (b.block gg (Array.getElem?_eq_some_iff.1 e3).1).trans e3, e4⟩
set_option maxRecDepth 100000 in
set_option maxHeartbeats 3200000 in
theorem GmatchSelects_walk (w : World) (aB : Option Addr) (mB capB : Nat) (b : List UInt8) (aN : Option Addr) (n capN : Nat) (l : List ByteArray) (hg : Glob w) (hb : HasB w aB b) (hmB : b.length = mB) (hcB : mB ≤ capB) (hrB : capB ≤ 140737488351232)
    (hl : HasN w aN l) (hn : l.length = n) (hlc : n ≤ capN) (hcN : capN ≤ 9223372036854775807) :
    Calls Tryd.prog 9 #[.slice aB mB capB, .slice aN n capN] w fun e w' => e = .returned (.bool true) ∧ Below w.heap.size w w' := by
  have HG := Lib.hid hg
  have HBS := Lib.hid hb
  have HMB := Lib.hid hmB
  obtain ⟨L, hLe⟩ : ∃ L, (l.map bl).take 40 = L := ⟨_, rfl⟩
  have HL := Lib.hid (show HasS w aN L by rw [← hLe]; exact hl.toS.pre 40)
  have HM := Lib.hid (show L.length = min n 40 by rw [← hLe, List.length_take, List.length_map, hn]; omega)
  have hk : min n 40 ≤ 40 := by omega
  have hk2 : min n 40 ≤ capN := by omega
  clear hl hn hLe hg hb hmB
  go_enter Tryd.func9, Tryd.ntmps9
  go_upto_if 12 with fail
  go_cut [1] (fun v wx => v = .slice aN (min n 40) capN ∧ wx = w)
  case first =>
    rcases Nat.lt_or_ge 40 n with h | h
    · have hI : (40 : Int) < (n : Int) := by omega
      have hI2 : (40 : Int) ≤ (capN : Int) := by omega
      have he := Nat.min_eq_right (show 40 ≤ n by omega)
      go_wp2_with fail
      go_meet
      case rel => exact ⟨by rw [he], rfl⟩
    · have hI : ¬ (40 : Int) < (n : Int) := by omega
      have he := Nat.min_eq_left (show n ≤ 40 by omega)
      go_wp2_with fail
      go_meet
      case rel => exact ⟨by rw [he], rfl⟩
  case rest =>
    obtain ⟨rfl, rfl⟩ := hcut
    obtain ⟨i9, hi9, hz0, hz1, hz2⟩ := info_parts info9
    generalize min n 40 = k at *
    go_wp2_with fail
    go_loopw [5, 17] (fun y x wr => ∃ (v : Value) (j : Nat), v = y ∧ x = .int .i64 j ∧ j ≤ k ∧ wr.ownsRow wc.heap.size 9 1 v (shortS (L.take j)).length (scells (shortS (L.take j))) ∧ Below wc.heap.size wc wr) (fun _ x _ => k - (intOf x).toNat)
    case atStart => exact ⟨_, 0, rfl, rfl, by omega, ⟨rfl, .inl ⟨rfl, rfl⟩⟩, Below.refl _ _⟩
    case round =>
      obtain ⟨v, j, rfl, rfl, hj, hown, hbel⟩ := hrel
      have HO := Lib.hid hown
      have HB3 := Lib.hid hbel
      clear hown hbel
      by_cases hlt : j < k
      · have hjI : (j : Int) < (k : Int) := by omega
        have hj0 : (0 : Int) ≤ (j : Int) := by omega
        have hjl : j < L.length := by rw [HM.out]; exact hlt
        rcases HL.out.below HB3.out with hE | ⟨bN, oN, rfl, hbN, hx⟩
        · rw [hE] at hjl; simp at hjl
        obtain ⟨x, cx, hbx⟩ := cell_str (hx j hjl)
        have HTK := Lib.hid (show shortS (L.take (j + 1)) = shortS (L.take j) ++ (if x.size ≤ 60 then [bl x] else []) by
          rw [shortS, shortS, List.take_add_one, List.getElem?_eq_getElem hjl, List.filter_append, ← hbx]
          simp only [Option.toList_some, List.filter_cons, List.filter_nil, bl_len, decide_eq_true_eq])
        have hfl : (shortS (L.take j)).length ≤ 40 := by
          have := List.length_filter_le (fun s : List UInt8 => decide (s.length ≤ 60)) (L.take j)
          rw [List.length_take] at this; unfold shortS; omega
        clear hx hbx
        generalize shortS (L.take j) = F at *
        by_cases hs : x.size ≤ 60
        · have hsI : (x.size : Int) ≤ 60 := by omega
          have HKV := Lib.hid hs
          have HOA := Lib.hid (own_kept HO.out ((Below.refl _ _).alloc (Nat.le_refl _) (.cells #[.string x] 9)))
          have HBA := Lib.hid (HB3.out.alloc HB3.out.size (.cells #[.string x] 9))
          clear hs
          go_wp2_with (at_builtin; refine wpList_append_lies _ rfl (.tmp 24) (.tmp 26) _ rfl wc.heap.size 9 i9 _ 1 16 Tryd.underlying45 hi9 hz0 hz1 hz2 rfl (by omega) _ F.length (scells F) rfl HOA.out ⟨wr.heap.size, 0, none⟩ 1 1 [.string x] rfl rfl (fun k u hu => str_new wr x k u hu) (fun u hu => by simp at hu; subst hu; rfl) (by omega) (by unfold maxLen; omega) (by omega) (by have := HBA.out.size; simpa using this) _ rfl ?_; intro g cap' w' hown hgr _ _; have HO' := Lib.hid hown; have HB' := Lib.hid (HBA.out.grown hgr HBA.out.size (fun k hk => own_block HOA.out hk)); clear hown hgr)
          go_roundw
          case rel =>
            refine ⟨_, j + 1, rfl, by go_num, by omega, ?_, HB'.out⟩
            rw [HTK.out, if_pos HKV.out, List.length_append, show scells (F ++ [bl x]) = scells F ++ [.string x] by simp [scells, enc_bl, -List.append_assoc] ]
            exact HO'.out
          case measure => simp [intOf]; omega
        · have hsI : ¬ (x.size : Int) ≤ 60 := by omega
          have HKV := Lib.hid hs
          clear hs
          go_wp2_with fail
          go_roundw
          case rel => exact ⟨_, j + 1, rfl, by go_num, by omega, by rw [HTK.out, if_neg HKV.out, List.append_nil]; exact HO.out, HB3.out⟩
          case measure => simp [intOf]; omega
      · have hjI : ¬ (j : Int) < (k : Int) := by omega
        obtain rfl : j = k := by omega
        have hT : L.take j = L := by rw [← HM.out, List.take_length]
        have hown := HO.out
        rw [hT] at hown
        have hsl : (shortS L).length ≤ 40 := by
          have := List.length_filter_le (fun s : List UInt8 => decide (s.length ≤ 60)) L
          rw [HM.out] at this; unfold shortS; omega
        have hss : ∀ x ∈ shortS L, x.length ≤ 4096 := fun x hx => by
          have := (List.mem_filter.1 hx).2
          simp only [decide_eq_true_eq] at this; omega
        obtain ⟨aO, cO, rfl, hO, hO1, hO2⟩ := (show SApp wr wc.heap.size v (shortS L).length (shortS L) from .inr hown).out rfl (by unfold maxLen; omega)
        have hO3 : cO ≤ 9223372036854775807 := by unfold maxLen at hO2; omega
        have HS := Lib.hid hO
        have HSS := Lib.hid hss
        clear hown hss hO hT HO HL HM
        generalize shortS L = S at *
        by_cases h256 : 256 < mB
        · have HR := Lib.hid (rpat_long wr aB mB capB h256 hcB (by omega))
          go_wp2_with fail
          refine HR.out.mono ?_; rintro e w2 ⟨rfl, hb2⟩
          have HB2 := Lib.hid (HB3.out.trans (hb2.mono HB3.out.size))
          have HS2 := Lib.hid ((HS.out.below hb2).below ((Below.refl _ _).alloc (Nat.le_refl _) (.cells #[.int .i64 2, .int .i64 0, .int .i64 2] 38)))
          have HB4 := Lib.hid (HB2.out.alloc HB2.out.size (.cells #[.int .i64 2, .int .i64 0, .int .i64 2] 38))
          clear hb2
          go_wp2_with fail
          generalize w2.alloc (.cells #[.int .i64 2, .int .i64 0, .int .i64 2] 38) = W3 at *
          refine (pread_long W3 aB mB capB (HG.out.below' HB4.out) h256 hcB (by omega)).mono ?_; rintro e w4 ⟨rfl, hb4⟩
          have HB5 := Lib.hid (HB4.out.trans (hb4.mono HB4.out.size))
          have HS3 := Lib.hid (HS2.out.below hb4)
          clear hb4
          go_wp2_with fail
          refine (select_nil w4 aO S.length cO _ (by rw [List.length_map]) HS3.out.toN hO1 hO3).mono ?_; rintro e w5 ⟨rfl, hb5⟩
          have HB6 := Lib.hid (HB5.out.trans (hb5.mono HB5.out.size))
          clear hb5
          go_wp2_with fail
          refine (awake_any w5 (HG.out.below' HB6.out)).mono ?_; rintro e w6 ⟨rfl, hb6⟩
          have HB7 := Lib.hid (HB6.out.trans (hb6.mono HB6.out.size))
          clear hb6
          go_wp2_with fail
          go_ret
          exact ⟨rfl, HB7.out⟩
        · have HR := Lib.hid (rpat_any wr aB mB capB b (HBS.out.below HB3.out) HMB.out hcB (by omega) (by omega))
          have hln : (parseS b).length ≤ 256 := by have := parse_len _ b (Nat.le_refl _); rw [HMB.out] at this; omega
          have HPR := Lib.hid (fun W (hW : Below wc.heap.size wc W) => pread_any W aB mB capB b (HBS.out.below hW) (HG.out.below' hW) HMB.out hcB (by omega) (by omega))
          generalize parseS b = P at *
          obtain ⟨Q, hQ⟩ : ∃ Q, putsS (S.filter (keepS P)) = Q := ⟨_, rfl⟩
          have HQ := Lib.hid hQ
          clear hQ
          go_wp2_with fail
          refine HR.out.mono ?_; rintro e w2 ⟨A, C, rfl, hpA, hC1, hC2, hb2⟩
          have hC3 : C ≤ 9223372036854775807 := by unfold maxLen at hC2; omega
          have HB2 := Lib.hid (HB3.out.trans (hb2.mono HB3.out.size))
          have HS2 := Lib.hid ((HS.out.below hb2).below ((Below.refl _ _).alloc (Nat.le_refl _) (.cells #[.int .i64 0, .int .i64 0, .int .i64 0] 38)))
          have HA2 := Lib.hid ((hpA.below ((Below.refl _ _).alloc (Nat.le_refl _) (.cells #[.int .i64 0, .int .i64 0, .int .i64 0] 38))).top)
          have HB4 := Lib.hid (HB2.out.alloc HB2.out.size (.cells #[.int .i64 0, .int .i64 0, .int .i64 0] 38))
          clear hb2 hpA
          go_wp2_with fail
          generalize w2.alloc (.cells #[.int .i64 0, .int .i64 0, .int .i64 0] 38) = W3 at *
          refine (HPR.out W3 HB4.out).mono ?_; rintro e w4 ⟨rfl, vv, hp⟩
          have HP := Lib.hid hp
          have HB5 := Lib.hid (HB4.out.trans (hp.b.mono HB4.out.size))
          have HS3 := Lib.hid (HS2.out.below hp.b)
          have HA3 := Lib.hid (HA2.out.below hp.b).top
          clear hp
          go_wp2_with fail
          refine (select_read HP.out (by omega) w4 (Below.refl _ _) aO S.length cO S HS3.out rfl hO1 hO3 (by omega) HSS.out).mono ?_; rintro e w5 ⟨a5, n5, rfl, hn5, hS5, hm5, hb5⟩
          rw [HQ.out] at hn5 hS5
          have hm5' : n5 ≤ 9223372036854775807 := by unfold maxLen at hm5; omega
          have HB6 := Lib.hid (HB5.out.trans (hb5.mono HB5.out.size))
          have HS4 := Lib.hid (HS3.out.below hb5)
          have HA4 := Lib.hid (HA3.out.below hb5).top
          have HS5 := Lib.hid hS5
          have HN5 := Lib.hid hn5
          clear hb5 hS5 hn5
          go_wp2_with fail
          refine (rselect_any w5 A _ C P rfl HA4.out hC1 hC3 aO S.length cO S HS4.out rfl hO1 hO3 (by omega) HSS.out).mono ?_; rintro e w6 ⟨a6, n6, c6, rfl, hn6, hS6, h61, h62, hb6⟩
          rw [HQ.out] at hn6 hS6
          obtain rfl : n5 = n6 := by rw [← HN5.out, hn6]
          have h63 : c6 ≤ 9223372036854775807 := by unfold maxLen at h62; omega
          have HB7 := Lib.hid (HB6.out.trans (hb6.mono HB6.out.size))
          have HST := Lib.hid (rstrings_same w6 a5 a6 n5 n5 c6 Q HN5.out (HS5.out.below hb6) hS6 (Nat.le_refl _) h61 hm5' h63)
          clear hb6 hS6 hn6
          go_wp2_with fail
          refine HST.out.mono ?_; rintro e w7 ⟨rfl, hb7⟩
          have HB8 := Lib.hid (HB7.out.trans (hb7.mono HB7.out.size))
          clear hb7
          go_wp2_with fail
          refine (awake_any w7 (HG.out.below' HB8.out)).mono ?_; rintro e w8 ⟨rfl, hb8⟩
          have HB9 := Lib.hid (HB8.out.trans (hb8.mono HB8.out.size))
          clear hb8
          go_wp2_with fail
          go_ret
          exact ⟨rfl, HB9.out⟩
end Go.Proofs.YtafmhhhboihdfaaDoor
