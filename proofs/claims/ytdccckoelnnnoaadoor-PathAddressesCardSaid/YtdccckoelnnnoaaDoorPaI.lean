/- Path: strings.IndexAny at any bytes: plain facts on decoding. -/
import Derived.Test.YtdccckoelnnnoaaDoorPaW
import Derived.Laws.RangeAny
import Derived.Lib.IndexAny
namespace Go.Proofs.YtdccckoelnnnoaaDoor
open Go.RowKit

set_option maxHeartbeats 4000000 in
theorem decode_wide (s : ByteArray) (pos : Nat) (h : pos < s.size) (ha : 128 ≤ (s[pos]'h).toNat) : pos + (Utf8.decode s pos).2 ≤ s.size ∧ ∀ j, j < (Utf8.decode s pos).2 → 128 ≤ (s.get! (pos + j)).toNat := by
  have hn : ¬ (s[pos]'h).toNat < 128 := by omega
  have h00 : s.get! (pos + 0) = s[pos]'h := get_at s pos h
  simp only [Utf8.decode, get_at s pos h, hn, if_false]
  have one : pos + 1 ≤ s.size ∧ ∀ j, j < 1 → 128 ≤ (s.get! (pos + j)).toNat := ⟨h, fun j hj => by
    obtain rfl : j = 0 := by omega
    rw [h00]
    exact ha⟩
  split
  · rename_i hc
    simp only [Bool.and_eq_true, decide_eq_true_eq, beq_iff_eq] at hc
    split
    · refine ⟨by have := hc.2.1; show pos + 2 ≤ s.size; omega, fun j hj => ?_⟩
      have hj2 : j < 2 := hj
      rcases j with _ | _ | j
      · rw [h00]; exact ha
      · have := hc.2.2; show 128 ≤ (s.get! (pos + 1)).toNat; omega
      · omega
    · exact one
  split
  · rename_i hc
    simp only [Bool.and_eq_true, decide_eq_true_eq, beq_iff_eq] at hc
    split
    · refine ⟨by have := hc.2.1; show pos + 3 ≤ s.size; omega, fun j hj => ?_⟩
      have hj2 : j < 3 := hj
      rcases j with _ | _ | _ | j
      · rw [h00]; exact ha
      · have := hc.1.2.2; show 128 ≤ (s.get! (pos + 1)).toNat; omega
      · have := hc.2.2; show 128 ≤ (s.get! (pos + 2)).toNat; omega
      · omega
    · exact one
  split
  · rename_i hc
    simp only [Bool.and_eq_true, decide_eq_true_eq, beq_iff_eq] at hc
    split
    · refine ⟨by have := hc.2.1; show pos + 4 ≤ s.size; omega, fun j hj => ?_⟩
      have hj2 : j < 4 := hj
      rcases j with _ | _ | _ | _ | j
      · rw [h00]; exact ha
      · have := hc.1.1.2.2; show 128 ≤ (s.get! (pos + 1)).toNat; omega
      · have := hc.1.2.2; show 128 ≤ (s.get! (pos + 2)).toNat; omega
      · have := hc.2.2; show 128 ≤ (s.get! (pos + 3)).toNat; omega
      · omega
    · exact one
  · exact one
end Go.Proofs.YtdccckoelnnnoaaDoor
