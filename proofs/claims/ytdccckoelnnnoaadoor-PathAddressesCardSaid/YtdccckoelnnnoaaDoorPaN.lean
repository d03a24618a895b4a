/- Path: names: what value.IsName and the reference's Name answer. (printed by gen_pan.py) -/
import Derived.Test.YtdccckoelnnnoaaDoorWords
import Derived.WalkKit
import Derived.Lib.Hide
import Derived.Deep.QuietTactic
import Derived.BigQuiet
import Derived.Deep.RegionHeld3
import Derived.Deep.DrawnRows
import Derived.Deep.Cut
import Derived.Deep.CutRange
import Derived.Deep.DeepCutAuto
import Derived.Laws.IdiomStrings
namespace Go.Proofs.YtdccckoelnnnoaaDoor
open Go.RowKit
attribute [local go_sem ↓] Go.wp_at_zero Go.wp_at_succ

/-- The letters of a name. -/
def isLow (c : UInt8) : Bool := decide (97 ≤ c.toNat) && decide (c.toNat ≤ 122)
def okCh (c : UInt8) : Bool := isLow c || decide (c.toNat = 95) || (decide (48 ≤ c.toNat) && decide (c.toNat ≤ 57))
/-- The first bytes are as in a name. -/
def AllTo (s : ByteArray) (j : Nat) : Prop := ∀ i (h : i < s.size), i < j → okCh s[i] = true
instance (s : ByteArray) (j : Nat) : Decidable (AllTo s j) := Nat.decidableBallLT s.size fun i h => i < j → okCh s[i] = true
def nameB (s : ByteArray) : Bool := decide (s.size ≤ 32) && (if h : 0 < s.size then isLow s[0] else false) && decide (AllTo s s.size)
theorem nameB_yes {s : ByteArray} (h1 : 0 < s.size) (h2 : s.size ≤ 32) (hl : isLow s[0] = true) (h : AllTo s s.size) : nameB s = true := by
  unfold nameB
  simp [h1, h2, h, hl]
theorem nameB_no {s : ByteArray} (j : Nat) (hj : j < s.size) (h : okCh s[j] = false) : nameB s = false := by
  unfold nameB
  have : ¬ AllTo s s.size := fun x => by have := x j hj hj; rw [h] at this; cases this
  simp [this]
theorem nameB_first {s : ByteArray} (h1 : 0 < s.size) (hl : isLow s[0] = false) : nameB s = false := by
  unfold nameB
  simp [h1, hl]
theorem nameB_len {s : ByteArray} (h : ¬ (1 ≤ s.size ∧ s.size ≤ 32)) : nameB s = false := by
  unfold nameB
  by_cases h1 : 1 ≤ s.size
  · have : ¬ s.size ≤ 32 := fun x => h ⟨h1, x⟩
    simp [this]
  · have : ¬ 0 < s.size := h1
    simp [this]
theorem AllTo.next {s : ByteArray} {j : Nat} (h : AllTo s j) (hj : j < s.size) (hc : okCh s[j] = true) : AllTo s (j + 1) := by
  intro i hi hij
  by_cases e : i = j
  · subst e; exact hc
  · exact h i hi (by omega)
theorem okCh_of {c : UInt8} {n : Nat} (h : c.toNat = n) : okCh c = ((decide (97 ≤ n) && decide (n ≤ 122)) || decide (n = 95) || (decide (48 ≤ n) && decide (n ≤ 57))) := by
  unfold okCh isLow; rw [h]
theorem isLow_of {c : UInt8} {n : Nat} (h : c.toNat = n) : isLow c = (decide (97 ≤ n) && decide (n ≤ 122)) := by
  unfold isLow; rw [h]

/-- A text's bytes, as a block of their own. -/
theorem bytes_of (s : ByteArray) (w : World) : ∃ cap w2, (convert 9 97 (.string s)).run Tryd.prog w = .ok (.slice (some ⟨w.heap.size, 0, none⟩) s.size cap) w2 ∧ Only Nobody w w2 ∧ w2.heap.size = w.heap.size + 1 ∧ ∀ j (h : j < s.size), w2.cell? ⟨w.heap.size, j, none⟩ = some (.int .u8 (s[j].toNat : Int)) := by
  refine ⟨_, _, run_bytes_of_string (P := Tryd.prog) w 9 97 5 s Tryd.underlying9 Tryd.underlying97 Tryd.underlying5, ((Only.refl _ _).drew).alloc _, (by show (w.heap.push _).size = _; simp), fun j h => ?_⟩
  rw [cell_of_row _ w.heap.size j (bytesRow s (grownCap w s.size 0 5)) 5 _ (by show (w.heap.push _)[w.heap.size]? = _; rw [Array.getElem?_push_size])]
  have hd : j < s.data.size := h
  simp only [bytesRow, Array.getElem?_append, Array.size_map]
  rw [if_pos hd]
  rw [Array.getElem?_map, Array.getElem?_eq_getElem hd]
  rfl

set_option maxRecDepth 100000 in
set_option maxHeartbeats 4000000 in
theorem rName_any (s : ByteArray) (w : World) : Calls Tryd.prog 55 #[.string s] w fun e w' => e = .returned (.bool (nameB s)) ∧ w = w' := by
  by_cases h0 : s.size < 1
  · have HF : Hid (false = nameB s) := Lib.hid (nameB_len (by omega)).symm
    have hs : s = ⟨#[]⟩ := by
      have h : s.data.size = 0 := by show s.size = 0; omega
      cases s with | mk d => simp at h; rw [h]
    subst hs
    clear h0
    go_enter Tryd.func55, Tryd.ntmps55
    go_wp2_with fail
    go_ret
    exact ⟨ret_bool HF.out, rfl⟩
  have hs0 : (s.toList == ([] : List UInt8)) = false := by
    rw [toList_data]
    cases hd : s.data.toList with
    | nil => exact absurd (show s.size = 0 by show s.data.size = 0; rw [← Array.length_toList, hd]; rfl) (by omega)
    | cons a l => rfl
  have hs1 : (s.toList == ByteArray.toList ⟨#[]⟩) = false := by rw [show ByteArray.toList ⟨#[]⟩ = [] by rw [toList_data]]; exact hs0
  by_cases h1 : 32 < s.size
  · have HF : Hid (false = nameB s) := Lib.hid (nameB_len (by omega)).symm
    have h1I : (32 : Int) < (s.size : Int) := by omega
    clear h0 h1
    go_enter Tryd.func55, Tryd.ntmps55
    go_wp2_with fail
    go_ret
    exact ⟨ret_bool HF.out, rfl⟩
  have h1I : ¬ (32 : Int) < (s.size : Int) := by omega
  have hp : 0 < s.size := by omega
  have hpI : (0 : Int) < (s.size : Int) := by omega
  obtain ⟨a, HA⟩ : ∃ a : Nat, Hid (s[0].toNat = a) := ⟨_, Lib.hid rfl⟩
  have haa : (s[0].toNat : Int) = (a : Int) := by rw [HA.out]
  have hfa : isLow s[0] = (decide (97 ≤ a) && decide (a ≤ 122)) := isLow_of HA.out
  by_cases ha : 97 ≤ a
  case neg =>
    have HF : Hid (false = nameB s) := Lib.hid (nameB_first hp (by rw [hfa, decide_eq_false ha]; rfl)).symm
    have l1 : (a : Int) < 97 := by omega
    clear h0 h1 ha hfa
    go_enter Tryd.func55, Tryd.ntmps55
    go_wp2_with fail
    go_ret
    exact ⟨ret_bool HF.out, rfl⟩
  have l1 : ¬ (a : Int) < 97 := by omega
  by_cases hb : 122 < a
  · have HF : Hid (false = nameB s) := Lib.hid (nameB_first hp (by rw [hfa, decide_eq_false (show ¬ a ≤ 122 by omega)]; simp)).symm
    have l2 : (122 : Int) < (a : Int) := by omega
    clear h0 h1 ha hb hfa
    go_enter Tryd.func55, Tryd.ntmps55
    go_wp2_with fail
    go_ret
    exact ⟨ret_bool HF.out, rfl⟩
  have l2 : ¬ (122 : Int) < (a : Int) := by omega
  have HS : Hid (AllTo s s.size → true = nameB s) := Lib.hid fun h => (nameB_yes hp (by omega) (by rw [hfa, decide_eq_true ha, decide_eq_true (show a ≤ 122 by omega)]; rfl) h).symm
  have hsz : (s.size : Int) ≤ 32 := by omega
  clear h0 h1 ha hb hfa
  go_enter Tryd.func55, Tryd.ntmps55
  go_wp2_with fail
  go_loop [3] (fun i => ∃ j : Nat, i = .int .i64 (j : Int) ∧ j ≤ s.size ∧ Hid (AllTo s j)) (fun i => s.size - (intOf i).toNat)
  case atStart => exact ⟨0, rfl, Nat.zero_le _, Lib.hid (fun i _ h => absurd h (by omega))⟩
  case round =>
    obtain ⟨j, rfl, hj, HD⟩ := hrel
    by_cases hjs : j < s.size
    · have hjI : (j : Int) < (s.size : Int) := by omega
      have hj0 : (0 : Int) ≤ (j : Int) := by omega
      obtain ⟨c, HCC⟩ : ∃ c : Nat, Hid (s[j].toNat = c) := ⟨_, Lib.hid rfl⟩
      have hcc : (s[j].toNat : Int) = (c : Int) := by rw [HCC.out]
      have hc256 : (c : Int) < 256 := by rw [← hcc]; have := (s[j]).toNat_lt; omega
      have hc0 : (0 : Int) ≤ (c : Int) := by omega
      have HOK : Hid (okCh s[j] = true → Hid (AllTo s (j + 1))) := Lib.hid fun h => Lib.hid (HD.out.next hjs h)
      have HNO : Hid (okCh s[j] = false → false = nameB s) := Lib.hid fun h => (nameB_no j hjs h).symm
      have HCH : Hid (okCh s[j] = ((decide (97 ≤ c) && decide (c ≤ 122)) || decide (c = 95) || (decide (48 ≤ c) && decide (c ≤ 57)))) := Lib.hid (okCh_of HCC.out)
      by_cases g0 : 97 ≤ c ∧ c ≤ 122
      · skip
        have l0 : (97 : Int) ≤ (c : Int) := by omega
        have l1 : ¬ (c : Int) < 97 := by omega
        have l2 : (c : Int) ≤ 122 := by omega
        have l3 : ¬ (122 : Int) < (c : Int) := by omega
        have HX := Lib.hid (HOK.out (HCH.out.trans (by rw [decide_eq_true (show 97 ≤ c by omega), decide_eq_true (show c ≤ 122 by omega)]; rfl)))
        clear g0
        go_wp2_with fail
        go_round
        case rel => exact ⟨j + 1, by go_num, by omega, HX.out⟩
        case measure => simp [intOf]; omega
      by_cases g1 : 122 < c
      · skip
        have l0 : (97 : Int) ≤ (c : Int) := by omega
        have l1 : ¬ (c : Int) < 97 := by omega
        have l2 : ¬ (c : Int) ≤ 122 := by omega
        have l3 : (122 : Int) < (c : Int) := by omega
        have l4 : (48 : Int) ≤ (c : Int) := by omega
        have l5 : ¬ (c : Int) < 48 := by omega
        have l6 : ¬ (c : Int) ≤ 57 := by omega
        have l7 : (57 : Int) < (c : Int) := by omega
        have l8 : ((c : Int) != 95) = true := by simp; omega
        have l9 : ((c : Int) == 95) = false := by simp; omega
        have HX := Lib.hid (HNO.out (HCH.out.trans (by rw [decide_eq_false (show ¬ c ≤ 122 by omega), decide_eq_false (show ¬ c = 95 by omega), decide_eq_false (show ¬ c ≤ 57 by omega)]; simp)))
        clear g0 g1
        go_wp2_with fail
        go_ret
        exact ⟨ret_bool HX.out, rfl⟩
      by_cases g2 : c < 48
      · skip
        have l0 : ¬ (97 : Int) ≤ (c : Int) := by omega
        have l1 : (c : Int) < 97 := by omega
        have l2 : ¬ (48 : Int) ≤ (c : Int) := by omega
        have l3 : (c : Int) < 48 := by omega
        have l4 : ((c : Int) != 95) = true := by simp; omega
        have l5 : ((c : Int) == 95) = false := by simp; omega
        have HX := Lib.hid (HNO.out (HCH.out.trans (by rw [decide_eq_false (show ¬ 97 ≤ c by omega), decide_eq_false (show ¬ c = 95 by omega), decide_eq_false (show ¬ 48 ≤ c by omega)]; simp)))
        clear g0 g1 g2
        go_wp2_with fail
        go_ret
        exact ⟨ret_bool HX.out, rfl⟩
      by_cases g3 : c ≤ 57
      · skip
        have l0 : ¬ (97 : Int) ≤ (c : Int) := by omega
        have l1 : (c : Int) < 97 := by omega
        have l2 : (48 : Int) ≤ (c : Int) := by omega
        have l3 : ¬ (c : Int) < 48 := by omega
        have l4 : (c : Int) ≤ 57 := by omega
        have l5 : ¬ (57 : Int) < (c : Int) := by omega
        have HX := Lib.hid (HOK.out (HCH.out.trans (by rw [decide_eq_true (show 48 ≤ c by omega), decide_eq_true (show c ≤ 57 by omega)]; simp)))
        clear g0 g1 g2 g3
        go_wp2_with fail
        go_round
        case rel => exact ⟨j + 1, by go_num, by omega, HX.out⟩
        case measure => simp [intOf]; omega
      by_cases g4 : c = 95
      · skip
        have l0 : ¬ (97 : Int) ≤ (c : Int) := by omega
        have l1 : (c : Int) < 97 := by omega
        have l2 : (48 : Int) ≤ (c : Int) := by omega
        have l3 : ¬ (c : Int) < 48 := by omega
        have l4 : ¬ (c : Int) ≤ 57 := by omega
        have l5 : (57 : Int) < (c : Int) := by omega
        have l6 : ((c : Int) != 95) = false := by simp; omega
        have l7 : ((c : Int) == 95) = true := by simp; omega
        have HX := Lib.hid (HOK.out (HCH.out.trans (by rw [decide_eq_true (show c = 95 by omega)]; simp)))
        clear g0 g1 g2 g3 g4
        go_wp2_with fail
        go_round
        case rel => exact ⟨j + 1, by go_num, by omega, HX.out⟩
        case measure => simp [intOf]; omega
      have l0 : ¬ (97 : Int) ≤ (c : Int) := by omega
      have l1 : (c : Int) < 97 := by omega
      have l2 : (48 : Int) ≤ (c : Int) := by omega
      have l3 : ¬ (c : Int) < 48 := by omega
      have l4 : ¬ (c : Int) ≤ 57 := by omega
      have l5 : (57 : Int) < (c : Int) := by omega
      have l6 : ((c : Int) != 95) = true := by simp; omega
      have l7 : ((c : Int) == 95) = false := by simp; omega
      have HX := Lib.hid (HNO.out (HCH.out.trans (by rw [decide_eq_false (show ¬ 97 ≤ c by omega), decide_eq_false (show ¬ c = 95 by omega), decide_eq_false (show ¬ c ≤ 57 by omega)]; simp)))
      clear g0 g1 g2 g3 g4
      go_wp2_with fail
      go_ret
      exact ⟨ret_bool HX.out, rfl⟩
    · obtain rfl : j = s.size := by omega
      have HF := Lib.hid (HS.out HD.out)
      go_wp2_with fail
      go_ret
      exact ⟨ret_bool HF.out, rfl⟩
set_option maxRecDepth 100000 in
set_option maxHeartbeats 4000000 in
theorem vName_any (s : ByteArray) (w : World) : Calls Tryd.prog 62 #[.string s] w fun e w' => e = .returned (.bool (nameB s)) ∧ Only Nobody w w' := by
  by_cases h0 : s.size < 1
  · have HF : Hid (false = nameB s) := Lib.hid (nameB_len (by omega)).symm
    have hs : s = ⟨#[]⟩ := by
      have h : s.data.size = 0 := by show s.size = 0; omega
      cases s with | mk d => simp at h; rw [h]
    subst hs
    clear h0
    go_enter Tryd.func62, Tryd.ntmps62
    go_wp2_with fail
    go_ret
    exact ⟨ret_bool HF.out, Only.refl _ _⟩
  have hs0 : (s.toList == ([] : List UInt8)) = false := by
    rw [toList_data]
    cases hd : s.data.toList with
    | nil => exact absurd (show s.size = 0 by show s.data.size = 0; rw [← Array.length_toList, hd]; rfl) (by omega)
    | cons a l => rfl
  have hs1 : (s.toList == ByteArray.toList ⟨#[]⟩) = false := by rw [show ByteArray.toList ⟨#[]⟩ = [] by rw [toList_data]]; exact hs0
  by_cases h1 : 32 < s.size
  · have HF : Hid (false = nameB s) := Lib.hid (nameB_len (by omega)).symm
    have h1I : (32 : Int) < (s.size : Int) := by omega
    clear h0 h1
    go_enter Tryd.func62, Tryd.ntmps62
    go_wp2_with fail
    go_ret
    exact ⟨ret_bool HF.out, Only.refl _ _⟩
  have h1I : ¬ (32 : Int) < (s.size : Int) := by omega
  have hp : 0 < s.size := by omega
  have hpI : (0 : Int) < (s.size : Int) := by omega
  obtain ⟨a, HA⟩ : ∃ a : Nat, Hid (s[0].toNat = a) := ⟨_, Lib.hid rfl⟩
  have haa : (s[0].toNat : Int) = (a : Int) := by rw [HA.out]
  have hfa : isLow s[0] = (decide (97 ≤ a) && decide (a ≤ 122)) := isLow_of HA.out
  by_cases ha : 97 ≤ a
  case neg =>
    have HF : Hid (false = nameB s) := Lib.hid (nameB_first hp (by rw [hfa, decide_eq_false ha]; rfl)).symm
    have l1 : (a : Int) < 97 := by omega
    clear h0 h1 ha hfa
    go_enter Tryd.func62, Tryd.ntmps62
    go_wp2_with fail
    go_ret
    exact ⟨ret_bool HF.out, Only.refl _ _⟩
  have l1 : ¬ (a : Int) < 97 := by omega
  by_cases hb : 122 < a
  · have HF : Hid (false = nameB s) := Lib.hid (nameB_first hp (by rw [hfa, decide_eq_false (show ¬ a ≤ 122 by omega)]; simp)).symm
    have l2 : (122 : Int) < (a : Int) := by omega
    clear h0 h1 ha hb hfa
    go_enter Tryd.func62, Tryd.ntmps62
    go_wp2_with fail
    go_ret
    exact ⟨ret_bool HF.out, Only.refl _ _⟩
  have l2 : ¬ (122 : Int) < (a : Int) := by omega
  have HS : Hid (AllTo s s.size → true = nameB s) := Lib.hid fun h => (nameB_yes hp (by omega) (by rw [hfa, decide_eq_true ha, decide_eq_true (show a ≤ 122 by omega)]; rfl) h).symm
  have hsz : (s.size : Int) ≤ 32 := by omega
  clear h0 h1 ha hb hfa
  obtain ⟨cap, w2, hconv, ho, hz, hcell⟩ := bytes_of s w
  have HO := Lib.hid ho
  have HZ := Lib.hid hz
  have HC := Lib.hid hcell
  clear ho hz hcell
  go_enter Tryd.func62, Tryd.ntmps62
  go_wp2_with fail
  go_loop [25] (fun i => ∃ j : Nat, i = .int .i64 (j : Int) ∧ j ≤ s.size ∧ Hid (AllTo s j)) (fun i => s.size - (intOf i).toNat)
  case atStart => exact ⟨0, rfl, Nat.zero_le _, Lib.hid (fun i _ h => absurd h (by omega))⟩
  case round =>
    obtain ⟨j, rfl, hj, HD⟩ := hrel
    by_cases hjs : j < s.size
    · have hjI : (j : Int) < (s.size : Int) := by omega
      have hj0 : (0 : Int) ≤ (j : Int) := by omega
      obtain ⟨c, HCC⟩ : ∃ c : Nat, Hid (s[j].toNat = c) := ⟨_, Lib.hid rfl⟩
      have hcc : (s[j].toNat : Int) = (c : Int) := by rw [HCC.out]
      have hc256 : (c : Int) < 256 := by rw [← hcc]; have := (s[j]).toNat_lt; omega
      have hc0 : (0 : Int) ≤ (c : Int) := by omega
      have HOK : Hid (okCh s[j] = true → Hid (AllTo s (j + 1))) := Lib.hid fun h => Lib.hid (HD.out.next hjs h)
      have HNO : Hid (okCh s[j] = false → false = nameB s) := Lib.hid fun h => (nameB_no j hjs h).symm
      have HCH : Hid (okCh s[j] = ((decide (97 ≤ c) && decide (c ≤ 122)) || decide (c = 95) || (decide (48 ≤ c) && decide (c ≤ 57)))) := Lib.hid (okCh_of HCC.out)
      have hcell : w2.cell? ⟨w.heap.size, j, none⟩ = some (.int .u8 (c : Int)) := by rw [HC.out j hjs, hcc]
      by_cases g0 : 97 ≤ c ∧ c ≤ 122
      · skip
        have l0 : (97 : Int) ≤ (c : Int) := by omega
        have l1 : ¬ (c : Int) < 97 := by omega
        have l2 : (c : Int) ≤ 122 := by omega
        have l3 : ¬ (122 : Int) < (c : Int) := by omega
        have HX := Lib.hid (HOK.out (HCH.out.trans (by rw [decide_eq_true (show 97 ≤ c by omega), decide_eq_true (show c ≤ 122 by omega)]; rfl)))
        clear g0
        go_wp2_with fail
        go_round
        case rel => exact ⟨j + 1, by go_num, by omega, HX.out⟩
        case measure => simp [intOf]; omega
      by_cases g1 : 122 < c
      · skip
        have l0 : (97 : Int) ≤ (c : Int) := by omega
        have l1 : ¬ (c : Int) < 97 := by omega
        have l2 : ¬ (c : Int) ≤ 122 := by omega
        have l3 : (122 : Int) < (c : Int) := by omega
        have l4 : (48 : Int) ≤ (c : Int) := by omega
        have l5 : ¬ (c : Int) < 48 := by omega
        have l6 : ¬ (c : Int) ≤ 57 := by omega
        have l7 : (57 : Int) < (c : Int) := by omega
        have l8 : ((c : Int) != 95) = true := by simp; omega
        have l9 : ((c : Int) == 95) = false := by simp; omega
        have HX := Lib.hid (HNO.out (HCH.out.trans (by rw [decide_eq_false (show ¬ c ≤ 122 by omega), decide_eq_false (show ¬ c = 95 by omega), decide_eq_false (show ¬ c ≤ 57 by omega)]; simp)))
        clear g0 g1
        go_wp2_with fail
        go_ret
        exact ⟨ret_bool HX.out, HO.out⟩
      by_cases g2 : c < 48
      · skip
        have l0 : ¬ (97 : Int) ≤ (c : Int) := by omega
        have l1 : (c : Int) < 97 := by omega
        have l2 : ¬ (48 : Int) ≤ (c : Int) := by omega
        have l3 : (c : Int) < 48 := by omega
        have l4 : ((c : Int) != 95) = true := by simp; omega
        have l5 : ((c : Int) == 95) = false := by simp; omega
        have HX := Lib.hid (HNO.out (HCH.out.trans (by rw [decide_eq_false (show ¬ 97 ≤ c by omega), decide_eq_false (show ¬ c = 95 by omega), decide_eq_false (show ¬ 48 ≤ c by omega)]; simp)))
        clear g0 g1 g2
        go_wp2_with fail
        go_ret
        exact ⟨ret_bool HX.out, HO.out⟩
      by_cases g3 : c ≤ 57
      · skip
        have l0 : ¬ (97 : Int) ≤ (c : Int) := by omega
        have l1 : (c : Int) < 97 := by omega
        have l2 : (48 : Int) ≤ (c : Int) := by omega
        have l3 : ¬ (c : Int) < 48 := by omega
        have l4 : (c : Int) ≤ 57 := by omega
        have l5 : ¬ (57 : Int) < (c : Int) := by omega
        have HX := Lib.hid (HOK.out (HCH.out.trans (by rw [decide_eq_true (show 48 ≤ c by omega), decide_eq_true (show c ≤ 57 by omega)]; simp)))
        clear g0 g1 g2 g3
        go_wp2_with fail
        go_round
        case rel => exact ⟨j + 1, by go_num, by omega, HX.out⟩
        case measure => simp [intOf]; omega
      by_cases g4 : c = 95
      · skip
        have l0 : ¬ (97 : Int) ≤ (c : Int) := by omega
        have l1 : (c : Int) < 97 := by omega
        have l2 : (48 : Int) ≤ (c : Int) := by omega
        have l3 : ¬ (c : Int) < 48 := by omega
        have l4 : ¬ (c : Int) ≤ 57 := by omega
        have l5 : (57 : Int) < (c : Int) := by omega
        have l6 : ((c : Int) != 95) = false := by simp; omega
        have l7 : ((c : Int) == 95) = true := by simp; omega
        have HX := Lib.hid (HOK.out (HCH.out.trans (by rw [decide_eq_true (show c = 95 by omega)]; simp)))
        clear g0 g1 g2 g3 g4
        go_wp2_with fail
        go_round
        case rel => exact ⟨j + 1, by go_num, by omega, HX.out⟩
        case measure => simp [intOf]; omega
      have l0 : ¬ (97 : Int) ≤ (c : Int) := by omega
      have l1 : (c : Int) < 97 := by omega
      have l2 : (48 : Int) ≤ (c : Int) := by omega
      have l3 : ¬ (c : Int) < 48 := by omega
      have l4 : ¬ (c : Int) ≤ 57 := by omega
      have l5 : (57 : Int) < (c : Int) := by omega
      have l6 : ((c : Int) != 95) = true := by simp; omega
      have l7 : ((c : Int) == 95) = false := by simp; omega
      have HX := Lib.hid (HNO.out (HCH.out.trans (by rw [decide_eq_false (show ¬ 97 ≤ c by omega), decide_eq_false (show ¬ c = 95 by omega), decide_eq_false (show ¬ c ≤ 57 by omega)]; simp)))
      clear g0 g1 g2 g3 g4
      go_wp2_with fail
      go_ret
      exact ⟨ret_bool HX.out, HO.out⟩
    · obtain rfl : j = s.size := by omega
      have HF := Lib.hid (HS.out HD.out)
      go_wp2_with fail
      go_ret
      exact ⟨ret_bool HF.out, HO.out⟩
end Go.Proofs.YtdccckoelnnnoaaDoor
