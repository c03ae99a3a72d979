/-
  slices.Reverse over pieces, by the shelf's contract; the row that Pieces makes; Suffix. Conditions: those that each theorem names. The laying is printed by mklay.py, plainlay.py.
-/
import Derived.Test.YtafmhhhboihdfaaDoorPrefix
import Derived.Test.YtafmhhhboihdfaaDoorLaw2
import Derived.Shelf.SlicesQ.Reverse
namespace Go.Proofs.YtafmhhhboihdfaaDoor
open Go.RowKit Go.Shelf Go.Sort
set_option linter.unusedVariables false
def Tryd.laysRev_ren : Go.Shelf.Ren := ⟨fun | 35 => 38 | n => n, fun | 22 => 26 | 23 => 70 | 3 => 3 | 4 => 4 | 0 => 0 | n => n, fun | n => n⟩
theorem Tryd.laysRev : Go.Proofs.SlLaysE0.n35 Tryd.prog Tryd.laysRev_ren := {
  mixed := by kernel_rfl,
  f35 := ⟨Tryd.f38.name, by decide, Tryd.func38.trans (congrArg some (by kernel_rfl))⟩,
  t0 := Tryd.underlying0,
  a0 := Tryd.isAgg0,
  z0 := Tryd.sizeOf0,
  v0 := Tryd.zeroValue0,
  t3 := Tryd.underlying3,
  a3 := Tryd.isAgg3,
  z3 := Tryd.sizeOf3,
  v3 := Tryd.zeroValue3,
  t4 := Tryd.underlying4,
  a4 := Tryd.isAgg4,
  z4 := Tryd.sizeOf4,
  v4 := Tryd.zeroValue4,
  t22 := Tryd.underlying26,
  a22 := Tryd.isAgg26,
  z22 := Tryd.sizeOf26,
  v22 := Tryd.zeroValue26
}
instance : Inhabited Pc := ⟨⟨0, 0⟩⟩
theorem pc5_len (p : Pc) : (pc5 p).length = 5 := rfl
theorem pc5_cells (p : Pc) : ∀ v ∈ pc5 p, v.oneCell' = true := fun v hv => by
  simp [pc5] at hv
  rcases hv with rfl | rfl | rfl | rfl | rfl <;> rfl
/-- pieces in a row of the call's own, from the block's front on -/
def RowP (w : World) (g : Nat) (l : List Pc) : Prop := HoldsK pc5 5 w g 0 l.toArray
theorem RowP.has {w : World} {g : Nat} {l : List Pc} (h : RowP w g l) (hg : g < w.heap.size) : HasP w w.heap.size (some ⟨g, 0, none⟩) l := by
  refine HasP.mk hg (Nat.le_refl _) fun i k hi hk => ?_
  have e := (HoldsK.cell h (i := i) (c := k) (by simpa using hi) hk).1
  rw [e, getElem!_pos l.toArray i (by simpa using hi)]
  have hlen : k < (pc5 l[i]).length := hk
  simp only [List.getElem_toArray]
  rw [getElem!_pos (pc5 l[i]) k hlen, List.getElem?_eq_getElem hlen]
theorem rowP_new (w : World) (l : List Pc) (C : Array Value) (hC : C.toList.take (l.length * 5) = pcells l) : RowP (w.alloc (.cells C 70)) w.heap.size l := by
  intro j hj
  have hj' : j < l.length * 5 := by simpa [size_flatK] using hj
  have hjl : j / 5 < l.length := by omega
  refine ⟨?_, ?_⟩
  · rw [Nat.zero_add, cell_of_heap (heap_alloc_new w _), get_flatK _ _ _ _ (by simpa using hj'), ← Array.getElem?_toList]
    have h1 := congrArg (fun x => x[j]?) hC
    simp only [List.getElem?_take, if_pos hj'] at h1
    rw [h1]
    have h2 := pcells_at l (j / 5) (j % 5) hjl (by omega)
    rw [show j / 5 * 5 + j % 5 = j by omega] at h2
    rw [h2, getElem!_pos l.toArray (j / 5) (by simpa using hjl)]
    have hlen : j % 5 < (pc5 l[j / 5]).length := by rw [pc5_len]; omega
    simp only [List.getElem_toArray, id]
    rw [getElem!_pos (pc5 l[j / 5]) _ hlen, List.getElem?_eq_getElem hlen]
  · rw [World.frozen?, heap_alloc_new w _]; rfl
theorem run_app_rowP (w : World) (B : Nat) (a : Option Addr) (n : Nat) (l : List Pc) (cap : Nat) (hn : l.length = n) (h0 : 0 < n) (hb : HasP w B a l) (hl : n ≤ 1099511627776) :
    ∃ g cap' w', (Builtin.append_ #[26, 26] 26 #[.slice none 0 0, .slice a n cap]).run Tryd.prog w = .ok (.slice (some ⟨g, 0, none⟩) n cap') w' ∧ RowP w' g l ∧ g < w'.heap.size ∧ w.heap.size ≤ g ∧ n ≤ cap' ∧ cap' ≤ maxLen ∧ Below w.heap.size w w' := by
  subst hn
  obtain ⟨i0, hi, hz0, hz1, hz2⟩ := info_parts info70
  have ht := Tryd.underlying26
  rcases hb with rfl | ⟨b, off, rfl, hlt, hBs, hc⟩
  · simp at h0
  have hbl : (pcells l).length = l.length * i0.size := by rw [hz1]; exact pcells_len l
  have hr := run_append_nil (P := Tryd.prog) w 26 26 70 i0 _ ht hi hz0 ⟨b, off, none⟩ l.length cap (pcells l) hbl (fun j v hj => by
    have hjl : j < l.length * 5 := by have := (List.getElem?_eq_some_iff.1 hj).1; rwa [pcells_len] at this
    have hadd : (⟨b, off, none⟩ : Addr).add j = ⟨b, off + j, none⟩ := by unfold Addr.add; split <;> simp_all
    have e1 := HasP.get hc (j / 5) (j % 5) (by omega) (by omega)
    have e2 := pcells_at l (j / 5) (j % 5) (by omega) (by omega)
    have e3 : off + j / 5 * 5 + j % 5 = off + j := by omega
    have e4 : j / 5 * 5 + j % 5 = j := by omega
    rw [e3] at e1
    rw [e4] at e2
    rw [hadd]
    exact e1.trans (e2.symm.trans hj)) h0 (by omega) (by rw [hz2]; omega)
  refine ⟨_, _, _, hr, rowP_new w.drew l _ ?_, by simp, Nat.le_refl _, grownCap_ge _ _ _ _, grownCap_le_maxLen _ _ _ _ (by simp [maxLen]; omega), ((Below.refl _ _).drew).alloc (Nat.le_refl _) _⟩
  rw [Array.toList_append, List.take_left' (by simp [pcells_len])]
set_option maxRecDepth 100000 in
set_option maxHeartbeats 400000 in
theorem pieces_row (w : World) (q B : Nat) (a : Option Addr) (n cap : Nat) (l : List Pc) (hn : l.length = n) (h0 : 0 < n) (hq : PatAt w q a n cap) (hb : HasP w B a l) (hl : n ≤ 1099511627776) :
    Calls Tryd.prog 13 #[.pointer (some ⟨q, 0, none⟩)] w fun e w' => ∃ g cap', e = .returned (.slice (some ⟨g, 0, none⟩) n cap') ∧ RowP w' g l ∧ g < w'.heap.size ∧ w.heap.size ≤ g ∧ n ≤ cap' ∧ cap' ≤ maxLen ∧ Below w.heap.size w w' := by
  obtain ⟨g, cap', w1, happ, hown⟩ := run_app_rowP w B a n l cap hn h0 hb hl
  have HA := Lib.hid happ
  have c0 : w.cell? ⟨q, 0, none⟩ = some (.slice a n cap) := by rw [World.cell?, show w.heap[q]? = _ from hq]; rfl
  clear happ
  have HO := Lib.hid hown
  clear hown hb hq
  go_enter Tryd.func13, Tryd.ntmps13
  go_wp2_with (at_builtin; refine wpList_append_run rfl _ _ _ rfl _ _ _ rfl rfl HA.out ?_)
  go_ret
  exact ⟨g, cap', rfl, HO.out⟩
/-- slices.Reverse -/
theorem reverse_any (w : World) (g n cap : Nat) (l : List Pc) (hn : l.length = n) (h : RowP w g l) (hg : g < w.heap.size) (hl : n ≤ 1099511627776) :
    Calls Tryd.prog 38 #[.slice (some ⟨g, 0, none⟩) n cap] w fun e w' => e = .returned (.tuple #[]) ∧ HasP w' w'.heap.size (some ⟨g, 0, none⟩) l.reverse ∧ Below g w w' := by
  subst hn
  have hc := AnyQ.slices_Reverse Tryd.laysRev 5 Tryd.isAgg70 Tryd.sizeOf70 pc5 pc5_len pc5_cells g 0 cap l.toArray w h (by simp; omega)
  rw [List.size_toArray] at hc
  refine hc.mono ?_
  rintro e w' ⟨rfl, k, rfl⟩
  have hs : (putRowK pc5 5 (Sort.ahead w k) g 0 l.toArray.reverse).heap.size = w.heap.size := by simp [putRowK, Sort.ahead]
  refine ⟨rfl, ?_, ?_⟩
  · refine RowP.has ?_ (by rw [hs]; exact hg)
    have := holdsK_putRowK (enc := pc5) (k := 5) (Sort.ahead w k) g 0 l.toArray l.toArray.reverse h (by simp)
    unfold RowP
    rwa [List.reverse_toArray] at this ⊢
  · refine ⟨rfl, rfl, rfl, by rw [hs]; exact Nat.le_refl _, fun j hj => ?_⟩
    simp only [putRowK, putRow, mapBlock, Array.getElem?_modify]
    rw [if_neg (by omega)]; rfl
theorem reverse_nil (w : World) (a : Option Addr) (cap : Nat) : Calls Tryd.prog 38 #[.slice a 0 cap] w fun e w' => e = .returned (.tuple #[]) ∧ w = w' :=
  (AnyQ.slices_Reverse_empty Tryd.laysRev a cap w).mono fun e w' ⟨h1, h2⟩ => ⟨h1, h2.symm⟩
/-- pieces in a row of the call's own, or none -/
def RowQ (w : World) (B : Nat) (a : Option Addr) (l : List Pc) : Prop := l = [] ∨ ∃ g, a = some ⟨g, 0, none⟩ ∧ RowP w g l ∧ g < w.heap.size ∧ B ≤ g
theorem pieces_own (w : World) (q B : Nat) (a : Option Addr) (n cap : Nat) (l : List Pc) (hn : l.length = n) (hq : PatAt w q a n cap) (hb : HasP w B a l) (hl : n ≤ 1099511627776) :
    Calls Tryd.prog 13 #[.pointer (some ⟨q, 0, none⟩)] w fun e w' => ∃ a' cap', e = .returned (.slice a' n cap') ∧ RowQ w' w.heap.size a' l ∧ n ≤ cap' ∧ cap' ≤ maxLen ∧ Below w.heap.size w w' := by
  rcases Nat.eq_zero_or_pos n with h0 | h0
  · subst h0
    exact (pieces_any w q B a 0 cap l hn hq hb hl).mono fun e w' ⟨a', cap', h1, h2, h3, h4, h5⟩ => ⟨a', cap', h1, .inl (List.length_eq_zero_iff.1 hn), h3, h4, h5⟩
  · exact (pieces_row w q B a n cap l hn h0 hq hb hl).mono fun e w' ⟨g, cap', h1, h2, h3, h4, h5, h6, h7⟩ => ⟨_, cap', h1, .inr ⟨g, rfl, h2, h3, h4⟩, h5, h6, h7⟩
theorem reverse_own (w : World) (B : Nat) (a : Option Addr) (n cap : Nat) (l : List Pc) (hn : l.length = n) (h : RowQ w B a l) (hl : n ≤ 1099511627776) (hB : B ≤ w.heap.size) :
    Calls Tryd.prog 38 #[.slice a n cap] w fun e w' => e = .returned (.tuple #[]) ∧ HasP w' w'.heap.size a l.reverse ∧ Below B w w' := by
  rcases h with rfl | ⟨g, rfl, h1, h2, h3⟩
  · subst hn
    exact (reverse_nil w a cap).mono fun e w' ⟨h1, h2⟩ => ⟨h1, .inl rfl, by subst h2; exact Below.refl _ _⟩
  · exact (reverse_any w g n cap l hn h1 h2 hl).mono fun e w' ⟨h4, h5, h6⟩ => ⟨h4, h5, h6.mono h3⟩
set_option maxRecDepth 100000 in
theorem suffix_nil (w : World) (aS : Option Addr) (m capS : Nat) (longest : Bool) :
    Calls Tryd.prog 22 #[.pointer none, .slice aS m capS, .bool longest] w fun e w' => e = .returned (.tuple #[.int .i64 0, .bool false]) ∧ Below w.heap.size w w' := by
  have HB := Lib.hid (show Below w.heap.size w (w.alloc (.cells #[.slice aS m capS] 22 (0, 0))) from (Below.refl _ _).alloc (Nat.le_refl _) _)
  go_enter Tryd.func22, Tryd.ntmps22
  go_wp2_with fail
  go_ret2
  exact ⟨rfl, HB.out⟩
/-- the closure that Suffix makes -/
theorem sfx_all (W w : World) (c : Nat) (aS : Option Addr) (m capS : Nat) (bs : List UInt8) (hb : HasB w aS bs) (hbW : Below w.heap.size w W) (hm : bs.length = m) (hms : m ≤ capS) (hcs : capS ≤ 140737488351232)
    (hc : W.cell? ⟨c, 0, none⟩ = some (.slice aS m capS)) : ∀ i (hi : i < bs.reverse.length), Calls Tryd.prog 39 #[.int .i64 i, .pointer (some ⟨c, 0, none⟩)] W fun e w' => e = .returned (.int .u8 (iv bs.reverse[i])) ∧ W = w' := by
  intro i hi
  rcases hb.below hbW with rfl | ⟨b, off, rfl, hlt, hx⟩
  · simp at hi
  · have hi' : i < bs.length := by simpa using hi
    have hk : bs.length - 1 - i < bs.length := by omega
    rw [List.getElem_reverse]
    exact sfx_any W c b off m capS bs i (bs.length - 1 - i) hk hm (by omega) hc (hx _ hk) (by omega)
theorem suff_best (l : List Pc) (bs : List UInt8) (b : Bool) (m : Nat) (hm : bs.length = m) : bestTo (fun j => mat l.reverse (bs.reverse.take j)) b (m + 1) = bestTo (suffG l bs) b (bs.length + 1) := by
  subst hm
  exact best_congr _ _ fun j _ => suffG_rev l bs j
set_option maxRecDepth 100000 in
set_option maxHeartbeats 1600000 in
theorem suffix_any (w : World) (q B : Nat) (a : Option Addr) (n cap : Nat) (l : List Pc) (aS : Option Addr) (m capS : Nat) (bs : List UInt8) (longest : Bool) (hn : l.length = n) (hnb : n ≤ 4096) (hq : PatAt w q a n cap) (hp : HasP w B a l) (hB : B ≤ w.heap.size)
    (hbs : HasB w aS bs) (hm : bs.length = m) (hms : m ≤ capS) (hcs : capS ≤ 140737488351232) :
    Calls Tryd.prog 22 #[.pointer (some ⟨q, 0, none⟩), .slice aS m capS, .bool longest] w fun e w' => e = .returned (.tuple #[.int .i64 (suffS l bs longest).1, .bool (suffS l bs longest).2]) ∧ Below w.heap.size w w' := by
  have HSO := Lib.hid (suff_ok l bs longest)
  have HSV := Lib.hid (suff_val l bs longest)
  have HSD := Lib.hid (show (suffS l bs longest).2 = false → (suffS l bs longest).1 = 0 by unfold suffS; split <;> simp)
  have HBT := Lib.hid (show (bestTo (suffG l bs) longest (bs.length + 1)).1 ≤ m by
    subst hm
    cases h : (bestTo (suffG l bs) longest (bs.length + 1)).2 with
    | true => have := (best_at _ _ _ h).1; omega
    | false => rw [best_none _ _ _ h]; omega)
  obtain ⟨X, hX⟩ : ∃ X, suffS l bs longest = X := ⟨_, rfl⟩
  rw [hX] at HSO HSV HSD ⊢
  clear hX
  have hmf : ∀ (fn : Fn) (first cap : Array Value) (w : World), (Instr.makeFunc fn first cap).run Tryd.prog w = .ok (.func fn first cap) w := fun _ _ _ _ => rfl
  have HB1 := Lib.hid (show Below w.heap.size w (w.alloc (.cells #[.slice aS m capS] 22 (0, 0))) from (Below.refl _ _).alloc (Nat.le_refl _) _)
  have HC1 := Lib.hid (show (w.alloc (.cells #[.slice aS m capS] 22 (0, 0))).cell? ⟨w.heap.size, 0, none⟩ = some (.slice aS m capS) by rw [cell_of_heap (heap_alloc_new w _)]; rfl)
  have hqlt : q < w.heap.size := (Array.getElem?_eq_some_iff.1 (show w.heap[q]? = _ from hq)).1
  have HQ := Lib.hid (show PatAt (w.alloc (.cells #[.slice aS m capS] 22 (0, 0))) q a n cap from (HB1.out.block q hqlt).trans hq)
  have HS := Lib.hid (show (w.alloc (.cells #[.slice aS m capS] 22 (0, 0))).heap.size = w.heap.size + 1 by simp)
  have HP := Lib.hid (show HasP (w.alloc (.cells #[.slice aS m capS] 22 (0, 0))) B a l from hp.below (HB1.out.mono hB))
  have HBS := Lib.hid hbs
  have HN := Lib.hid hn
  have HM := Lib.hid hm
  have HMS := Lib.hid hms
  clear hq hp hbs hn hm hqlt
  go_enter Tryd.func22, Tryd.ntmps22
  go_wp2_with fail
  generalize w.alloc (.cells #[.slice aS m capS] 22 (0, 0)) = W at *
  refine (pieces_own W q B a n cap l HN.out HQ.out HP.out (by omega)).mono ?_; rintro e w2 ⟨a', cap', rfl, h1, h2, h3, h4⟩
  have HR := Lib.hid h1
  have HL3 := Lib.hid h3
  have HB2 := Lib.hid h4
  clear h1 h3 h4
  go_wp2_with fail
  refine (reverse_own w2 W.heap.size a' n cap' l HN.out HR.out (by omega) HB2.out.size).mono ?_; rintro e w3 ⟨rfl, h5, h6⟩
  have HP3 := Lib.hid h5
  have HB3 := Lib.hid (HB2.out.trans h6)
  have hW : w.heap.size < W.heap.size := by have := HS.out; omega
  have hc3 : w3.cell? ⟨w.heap.size, 0, none⟩ = some (.slice aS m capS) := (HB3.out.cell (p := ⟨w.heap.size, 0, none⟩) hW).trans HC1.out
  have HB03 := Lib.hid (show Below w.heap.size w w3 from HB1.out.trans (HB3.out.mono (by omega)))
  have HU := Lib.hid (upto_39 w3 a' cap' n l.reverse w.heap.size m bs.reverse longest (by rw [List.length_reverse]; exact HN.out) HP3.out h2 (by have := HL3.out; simp [maxLen] at this; omega) hnb (by rw [List.length_reverse]; exact HM.out) (by omega) fun i hi W2 hW2 =>
      sfx_all W2 w w.heap.size aS m capS bs HBS.out (HB03.out.trans (hW2.mono HB03.out.size)) HM.out HMS.out hcs ((hW2.cell (p := ⟨w.heap.size, 0, none⟩) (show w.heap.size < w3.heap.size by have h5 : W.heap.size ≤ w3.heap.size := HB3.out.size; omega)).trans hc3) i hi)
  rw [suff_best l bs longest m HM.out] at HU
  obtain ⟨T, hT⟩ : ∃ T, bestTo (suffG l bs) longest (bs.length + 1) = T := ⟨_, rfl⟩
  rw [hT] at HSO HSV HBT HU
  clear hT h5 h6
  obtain ⟨T1, T2⟩ := T
  obtain ⟨X1, X2⟩ := X
  obtain rfl : X2 = T2 := HSO.out
  have hmc : ((capS : Nat) : Int) ≤ 140737488351232 := by omega
  cases X2 with
  | false =>
    obtain rfl : X1 = 0 := HSD.out rfl
    go_wp2_with fail
    refine HU.out.mono ?_; rintro e w4 ⟨rfl, hb4⟩
    have HF := Lib.hid (HB03.out.trans (hb4.mono HB03.out.size))
    have hc4 : w4.cell? ⟨w.heap.size, 0, none⟩ = some (.slice aS m capS) := (hb4.cell (p := ⟨w.heap.size, 0, none⟩) (show w.heap.size < w3.heap.size by have h5 : W.heap.size ≤ w3.heap.size := HB3.out.size; omega)).trans hc3
    clear hb4
    go_wp2_with fail
    go_ret2
    exact ⟨rfl, HF.out⟩
  | true =>
    have hx : X1 = m - T1 := by have := HSV.out rfl; rw [HM.out] at this; exact this
    have ht : T1 ≤ m := HBT.out
    have hxi : (m : Int) - (T1 : Int) = (X1 : Int) := by omega
    go_wp2_with fail
    refine HU.out.mono ?_; rintro e w4 ⟨rfl, hb4⟩
    have HF := Lib.hid (HB03.out.trans (hb4.mono HB03.out.size))
    have hc4 : w4.cell? ⟨w.heap.size, 0, none⟩ = some (.slice aS m capS) := (hb4.cell (p := ⟨w.heap.size, 0, none⟩) (show w.heap.size < w3.heap.size by have h5 : W.heap.size ≤ w3.heap.size := HB3.out.size; omega)).trans hc3
    clear hb4
    go_wp2_with fail
    go_ret2
    exact ⟨rfl, HF.out⟩
end Go.Proofs.YtafmhhhboihdfaaDoor
