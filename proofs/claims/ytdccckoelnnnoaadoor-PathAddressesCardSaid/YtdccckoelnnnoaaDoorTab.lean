/- The library's table of powers of ten; small lemmas on strings. -/
import Derived.Test.YtdccckoelnnnoaaDoorShelf
import Derived.Test.YtdccckoelnnnoaaDoorWords
namespace Go.Proofs.YtdccckoelnnnoaaDoor
open Go.RowKit

/-- The library's table of powers of ten lies in memory. -/
def CalTab (w : World) : Prop := Lib.TabIs Tryd.prog w "internal/strconv.uint64pow10" .u64 Lib.pow10Tab
theorem CalTab.block {w w' : World} (h : CalTab w) (hg : Tryd.prog.globalNamed "internal/strconv.uint64pow10" = some 3) (hb : w'.heap[3]? = w.heap[3]?) : CalTab w' := by
  unfold CalTab Lib.TabIs World.var? at *
  rw [hg] at h ⊢
  simp only [Option.bind_some] at h ⊢
  rw [hb]
  exact h
theorem CalTab.lt {w : World} (h : CalTab w) (hg : Tryd.prog.globalNamed "internal/strconv.uint64pow10" = some 3) : 3 < w.heap.size := by
  unfold CalTab Lib.TabIs World.var? at h
  rw [hg] at h
  simp only [Option.bind_some] at h
  rcases Nat.lt_or_ge 3 w.heap.size with h' | h'
  · exact h'
  · rw [Array.getElem?_eq_none h'] at h; simp at h
theorem gPow' : Tryd.prog.globalNamed "internal/strconv.uint64pow10" = some 3 := by kernel_rfl
theorem CalTab.only {w w' : World} {F : Nat → Prop} (h : CalTab w) (ho : Only F w w') (hF : ¬ F 3) : CalTab w' := h.block gPow' (ho.block _ (h.lt gPow') hF)
theorem CalTab.below {w w' : World} (h : CalTab w) (hb : Below w.heap.size w w') : CalTab w' := h.block gPow' (hb.block _ (h.lt gPow'))
theorem CalTab.same {w w' : World} (h : CalTab w) (ho : Only Nobody w w') : CalTab w' := h.only ho (fun x => x)
theorem below_grow' (w : World) (k : Nat) (os : Array Obj) : Below w.heap.size w (Go.Sort.grow (w.drewN k) os) := by
  refine ⟨rfl, rfl, rfl, ?_, fun i hi => ?_⟩
  · show w.heap.size ≤ (w.heap ++ os).size
    rw [Array.size_append]; omega
  · show (w.heap ++ os)[i]? = w.heap[i]?
    rw [Array.getElem?_append_left hi]
theorem below_trans {w0 w w' : World} (h : Below w0.heap.size w0 w) (h' : Below w.heap.size w w') : Below w0.heap.size w0 w' := h.trans (h'.mono h.size)
theorem str_ext {a b : ByteArray} (h : a.data.toList = b.data.toList) : a = b := ByteArray.ext (Array.toList_inj.1 h)
theorem ret_str {a b : ByteArray} (h : a = b) : Ending.returned (.string a) = Ending.returned (.string b) := by rw [h]
theorem ret2_str {a b : ByteArray} {v : Value} (h : a = b) : Ending.returned (.tuple #[.string a, v]) = Ending.returned (.tuple #[.string b, v]) := by rw [h]
theorem size_len (s : ByteArray) : s.data.toList.length = s.size := by simp

/-- What Itoa returns. -/
theorem itoa_any (n : Int) (h0 : -9223372036854775808 ≤ n) (h1 : n ≤ 9223372036854775807) (s : ByteArray) (hs : s.data.toList = Lib.itoa n) (w : World) (ht : CalTab w) : Calls Tryd.prog 61 #[.int .i64 n] w fun e w' => e = .returned (.string s) ∧ Only Nobody w w' := by
  refine (Tryd.strconv_Itoa n h0 h1 w ht).mono ?_
  rintro e w' ⟨rfl, k, os, rfl⟩
  exact ⟨ret_str (str_ext hs.symm), Only.of_below (below_grow' w k os) Nobody⟩

end Go.Proofs.YtdccckoelnnnoaaDoor
