/- Path: the law PathGets. -/
import Derived.Test.YtdccckoelnnnoaaDoorFiU
import Derived.Test.YtdccckoelnnnoaaDoorFiS
import Derived.Test.YtdccckoelnnnoaaDoorVaE
import Derived.Test.YtdccckoelnnnoaaDoorKnA
import Derived.Test.YtdccckoelnnnoaaDoorPaL2

namespace Go.Proofs.YtdccckoelnnnoaaDoor
open Go.RowKit
attribute [local go_sem ↓] Go.wp_at_zero Go.wp_at_succ

theorem findR_err {T : VT} {L : List Pt} (h : findE T L ≠ 0) : findR T L = [] := by
  unfold findE at h
  unfold findR
  split
  · rename_i hc
    rw [if_pos hc] at h
    cases hf : findT [T] L with
    | none => rfl
    | some R =>
      rw [hf] at h
      simp only [] at h
      split at h
      · rename_i hh; exact hh.1
      · exact absurd rfl h
  · rfl
theorem find_ok {T : VT} {L : List Pt} (h : findE T L = 0) : okL L = true ∧ findT [T] L = some (findR T L) := by
  by_cases hok : okL L = true
  · refine ⟨hok, ?_⟩
    unfold findE at h
    unfold findR
    rw [chkE_ok hok] at h ⊢
    rw [if_pos rfl] at h ⊢
    cases hf : findT [T] L with
    | none => rw [hf] at h; simp at h
    | some R => rfl
  · unfold findE at h; rw [chkE_no hok] at h; simp at h
end Go.Proofs.YtdccckoelnnnoaaDoor
