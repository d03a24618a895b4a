/- The five tables that the rows of the durations list: what they give the walks. -/
import Derived.Test.YthkkjfofpoifiaaDoorCalLaid
import Derived.Lay
namespace Go.Proofs.YthkkjfofpoifiaaDoor
open Go.ChangeShapes Go.WideShapes Go.ChangeAt Go.WideMaps Go.WideElems Go.RowKit

theorem of_laid5 {W : World} (h : laidMetH Tryd.prog Rows.calendarSpansRow.laid W) : CalTab W := by
  rw [MakeChecks.laidMetH_plain _ _ _ (by kernel_rfl)] at h
  obtain ⟨ps, ⟨g0, t0, cs0, f0, p0, q0, hg0, ht0, hv0, hd0, ⟨g1, t1, cs1, f1, p1, q1, hg1, ht1, hv1, hd1, ⟨g2, t2, cs2, f2, p2, q2, hg2, ht2, hv2, hd2, _, _⟩, _⟩, _⟩, _⟩ := h
  obtain rfl := Option.some.inj (gPow.symm.trans hg2)
  obtain rfl := Option.some.inj (tPow.symm.trans ht2)
  unfold CalTab Lib.TabIs
  rw [hv2, ← Lib.cells_of_tab Tryd.underlying109 Tryd.underlying95 (by kernel_rfl) (by kernel_rfl) (zs := Lib.pow10Tab) hd2]

end Go.Proofs.YthkkjfofpoifiaaDoor
