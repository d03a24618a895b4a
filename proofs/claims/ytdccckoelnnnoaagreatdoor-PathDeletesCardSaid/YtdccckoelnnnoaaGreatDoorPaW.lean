/- Path: the reference's word: the end of a name. -/
import Derived.Test.YtdccckoelnnnoaaGreatDoorPaX
namespace Go.Proofs.YtdccckoelnnnoaaGreatDoor
open Go.RowKit
attribute [local go_sem ↓] Go.wp_at_zero Go.wp_at_succ

/-- Whether a byte goes on with a name that begins at an index. -/
def goesOn (s : ByteArray) (a e : Nat) : Bool := if h : e < s.size then isLow s[e] || (decide (a < e) && okCh s[e]) else false
/-- The end of the longest run of a name's letters from an index on. -/
def runEnd (s : ByteArray) (a : Nat) : Nat → Nat → Nat
  | 0, e => e
  | f + 1, e => if goesOn s a e = true then runEnd s a f (e + 1) else e
def wordEnd (s : ByteArray) (a : Nat) : Nat := let e := runEnd s a (s.size - a) a; if 32 < e - a then a else e
theorem runEnd_le (s : ByteArray) (a : Nat) : ∀ f e, e ≤ s.size → e ≤ runEnd s a f e ∧ runEnd s a f e ≤ s.size
  | 0, e, h => ⟨Nat.le_refl _, h⟩
  | f + 1, e, h => by
    unfold runEnd
    by_cases hg : goesOn s a e = true
    · rw [if_pos hg]
      have he : e < s.size := by
        unfold goesOn at hg
        by_cases h2 : e < s.size
        · exact h2
        · rw [dif_neg h2] at hg; cases hg
      have := runEnd_le s a f (e + 1) he
      omega
    · rw [if_neg hg]
      exact ⟨Nat.le_refl _, h⟩
theorem runEnd_go {s : ByteArray} {a f e : Nat} (h : goesOn s a e = true) : runEnd s a (f + 1) e = runEnd s a f (e + 1) := by
  rw [runEnd, if_pos h]
theorem runEnd_stop {s : ByteArray} {a f e : Nat} (h : goesOn s a e = false) : runEnd s a f e = e := by
  cases f with
  | zero => rfl
  | succ f => rw [runEnd, if_neg (by rw [h]; decide)]
theorem goesOn_of {s : ByteArray} {a e c : Nat} (h : e < s.size) (hc : s[e].toNat = c) : goesOn s a e = ((decide (97 ≤ c) && decide (c ≤ 122)) || (decide (a < e) && ((decide (97 ≤ c) && decide (c ≤ 122)) || decide (c = 95) || (decide (48 ≤ c) && decide (c ≤ 57))))) := by
  unfold goesOn
  rw [dif_pos h, okCh_of hc, isLow_of hc]
theorem goesOn_end {s : ByteArray} {a e : Nat} (h : s.size ≤ e) : goesOn s a e = false := by
  unfold goesOn
  rw [dif_neg (by omega)]

/-! The walk. (printed by gen_paw.py) -/
end Go.Proofs.YtdccckoelnnnoaaGreatDoor
