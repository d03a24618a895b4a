/- Path, plain: the reference's parsing: words, digits. -/
import Derived.Test.YtdccckoelnnnoaaDoorPaV
namespace Go.Proofs.YtdccckoelnnnoaaDoor
open Go.RowKit

theorem ParTo.nextR {s : List UInt8} {D : List Pt} {rest r : List UInt8} {p : Pt} (h : ParTo s D rest) (hs : stepR rest = some (p, r)) : ParTo s (D ++ [p]) r := by
  intro f hf
  have hlt := stepR_lt hs
  cases rest with
  | nil => cases hs
  | cons c l =>
    rw [h (max (f + 1) (c :: l).length) (Nat.le_max_right _ _)]
    obtain ⟨g, hg⟩ : ∃ g, max (f + 1) (c :: l).length = g + 1 := ⟨max (f + 1) (c :: l).length - 1, by omega⟩
    rw [hg, ← parse_same]
    simp only [parseW, hs]
    rw [parse_same, parseW_fuel (fun _ _ _ h => stepP_lt h) g f r (by omega) hf]
    cases parseW stepP f r <;> simp
theorem ParTo.failR {s : List UInt8} {D : List Pt} {rest : List UInt8} (h : ParTo s D rest) (h0 : rest ≠ []) (hs : stepR rest = none) : parsesL s = none := by
  cases rest with
  | nil => exact absurd rfl h0
  | cons c l =>
    rw [h ((c :: l).length) (Nat.le_refl _), ← parse_same]
    simp only [List.length_cons, parseW, hs]
    rfl

/-! The word at an index, as a list's. -/
theorem run_while (s : ByteArray) (a : Nat) : ∀ f e, s.size - e = f → a < e → runEnd s a f e = e + ((s.data.toList.drop e).takeWhile okCh).length
  | 0, e, h, _ => by
    have : s.data.toList.drop e = [] := List.drop_eq_nil_of_le (by rw [size_len]; omega)
    rw [this]; simp [runEnd]
  | f + 1, e, h, ha => by
    have he : e < s.size := by omega
    have hd : s.data.toList.drop e = s[e] :: s.data.toList.drop (e + 1) := by
      rw [List.drop_eq_getElem_cons (by rw [size_len]; exact he)]
      rfl
    rw [hd, List.takeWhile_cons]
    have hg : goesOn s a e = okCh s[e] := by
      unfold goesOn
      rw [dif_pos he, decide_eq_true ha, Bool.true_and]
      cases hl : isLow s[e] with
      | true => rw [low_ok hl]; rfl
      | false => rfl
    cases hc : okCh s[e] with
    | true =>
      rw [runEnd_go (by rw [hg]; exact hc), run_while s a f (e + 1) (by omega) (by omega)]
      simp
      omega
    | false =>
      rw [runEnd_stop (by rw [hg]; exact hc)]
      simp
theorem word_list (s : ByteArray) (a : Nat) (ha : a ≤ s.size) : wordEnd s a = a + wordL (s.data.toList.drop a) := by
  have hr : runEnd s a (s.size - a) a = a + runL (s.data.toList.drop a) := by
    by_cases he : a < s.size
    · have hd : s.data.toList.drop a = s[a] :: s.data.toList.drop (a + 1) := by
        rw [List.drop_eq_getElem_cons (by rw [size_len]; exact he)]
        rfl
      have hg : goesOn s a a = isLow s[a] := by
        unfold goesOn
        rw [dif_pos he, decide_eq_false (by omega)]
        simp
      rw [hd, runL_cons]
      obtain ⟨f, hf⟩ : ∃ f, s.size - a = f + 1 := ⟨s.size - a - 1, by omega⟩
      rw [hf]
      cases hl : isLow s[a] with
      | true =>
        rw [runEnd_go (by rw [hg]; exact hl), run_while s a f (a + 1) (by omega) (by omega)]
        simp
        omega
      | false =>
        rw [runEnd_stop (by rw [hg]; exact hl)]
        simp
    · have : s.data.toList.drop a = [] := List.drop_eq_nil_of_le (by rw [size_len]; omega)
      rw [this, show s.size - a = 0 by omega]
      simp [runEnd, runL]
  unfold wordEnd wordL
  rw [hr]
  simp only []
  have e : a + runL (s.data.toList.drop a) - a = runL (s.data.toList.drop a) := by omega
  rw [e]
  split <;> rfl
theorem word_bd (s : ByteArray) (a : Nat) (ha : a ≤ s.size) : a ≤ wordEnd s a ∧ wordEnd s a ≤ s.size := by
  have h := runEnd_le s a (s.size - a) a ha
  unfold wordEnd
  simp only []
  split
  · exact ⟨Nat.le_refl _, ha⟩
  · exact h

/-! Digits. -/
def valD (l : List UInt8) : Nat := l.foldl (fun a c => 10 * a + (c.toNat - 48)) 0
theorem fold_ge : ∀ (l : List UInt8) (a : Nat), a ≤ l.foldl (fun a c => 10 * a + (c.toNat - 48)) a
  | [], a => Nat.le_refl _
  | c :: l, a => by
    have := fold_ge l (10 * a + (c.toNat - 48))
    simp only [List.foldl_cons]
    omega
theorem valD_take (l : List UInt8) (k : Nat) : valD (l.take k) ≤ valD l := by
  have h : valD l = (l.drop k).foldl (fun a c => 10 * a + (c.toNat - 48)) (valD (l.take k)) := by
    conv => lhs; rw [← List.take_append_drop k l]
    unfold valD
    rw [List.foldl_append]
  rw [h]
  exact fold_ge _ _
theorem valD_snoc (l : List UInt8) (c : UInt8) : valD (l ++ [c]) = 10 * valD l + (c.toNat - 48) := by
  unfold valD
  rw [List.foldl_append]
  rfl
theorem valD_dec (n : Nat) : valD (Lib.decDigits n) = n := by
  induction n using Nat.strongRecOn with
  | _ n ih =>
    by_cases h : n < 10
    · rw [Lib.decDigits_one h]
      simp only [valD, List.foldl_cons, List.foldl_nil, dig_nat h]
      omega
    · have hm : n % 10 < 10 := Nat.mod_lt _ (by omega)
      rw [Lib.decDigits, dif_neg h, valD_snoc, ih (n / 10) (by omega), dig_nat hm]
      omega
theorem numL_big {l : List UInt8} {k : Nat} (h : 256 ≤ valD (l.take k)) : numL l = none := numL_none fun i hi e => by
  have := valD_take l k
  rw [← e] at this h
  rw [valD_dec] at this
  omega
theorem numL_letter {l : List UInt8} {k : Nat} {c : UInt8} (h : l[k]? = some c) (hc : ¬ (48 ≤ c.toNat ∧ c.toNat ≤ 57)) : numL l = none := numL_none fun i hi e => by
  have := dec_digit i c (by rw [e]; exact List.mem_of_getElem? h)
  exact hc this
theorem numL_yes {l : List UInt8} (h : valD l < 256) (hd : Lib.decDigits (valD l) = l) : numL l = some (valD l) := by
  have := numL_of h
  rw [hd] at this
  exact this
theorem numL_no {l : List UInt8} (hd : ¬ Lib.decDigits (valD l) = l) : numL l = none := numL_none fun i hi e => hd (by rw [← e, valD_dec])
end Go.Proofs.YtdccckoelnnnoaaDoor
