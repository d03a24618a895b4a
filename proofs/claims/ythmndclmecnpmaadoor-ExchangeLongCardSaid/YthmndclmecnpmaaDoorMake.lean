/- make([]byte, n) and string(..) of it. -/
import Derived.Test.YthmndclmecnpmaaDoorWords
import Derived.Laws.MakeOwn
import Derived.Laws.OwnMore
import Derived.Laws.BytesArg
namespace Go.Proofs.YthmndclmecnpmaaDoor
open Go.RowKit

/-- The cells of make([]byte, n), and the string of them. -/
def zeroC (n : Nat) : Array Value := madeCells (Value.int .u8 0).cells (n * 1)
def zeroS (n : Nat) : ByteArray := strOfNums (List.replicate n 0)
theorem zeroS_size (n : Nat) : (zeroS n).size = n := by rw [zeroS, strOfNums_size, List.length_replicate]
theorem zeroC_size (n : Nat) : (zeroC n).size = n := by rw [zeroC, size_madeCells, Nat.mul_one]

theorem make_bytes (n : Nat) (h : n ≤ 16777216) (w : World) : (Instr.makeSlice 45 (.int .i64 (n : Int)) (.int .i64 (n : Int))).run Tryd.prog w = .ok (.slice (some ⟨w.heap.size, 0, none⟩) n n) (w.alloc (.cells (zeroC n) 5)) := by
  have := run_makeSlice (P := Tryd.prog) w 45 5 Tryd.t5 (.int .u8 0) Tryd.underlying45 (by kernel_rfl) (by kernel_rfl) .i64 .i64 (n : Int) n (by omega) (Int.le_refl _) (by show (n : Int).toNat * 1 ≤ _; omega) (by show ((1 : Nat) : Int) * n ≤ _; omega) (by omega)
  rw [this]
  rfl

theorem zeroC_at (n i : Nat) (h : i < n) : (zeroC n)[i]? = some (.int .u8 0) := by
  have hl : (zeroC n).toList = List.replicate n (.int .u8 0) := by
    rw [zeroC, Nat.mul_one]
    exact toList_madeCells_one _ n
  rw [← Array.getElem?_toList, hl, List.getElem?_replicate, if_pos h]

theorem conv_zero (n : Nat) (w : World) : (convert 45 9 (.slice (some ⟨w.heap.size, 0, none⟩) n n)).run Tryd.prog (w.alloc (.cells (zeroC n) 5)) = .ok (.string (zeroS n)) (w.alloc (.cells (zeroC n) 5)) := by
  refine run_convert_bytes_arg (P := Tryd.prog) _ 45 5 Tryd.underlying45 Tryd.underlying5 w.heap.size 0 n n (List.replicate n 0) (by simp) (fun i hi => ?_) 9 Tryd.underlying9
  rw [World.cell?_alloc_mark, Nat.zero_add, zeroC_at n i hi]
  congr 2
  rw [List.getD_eq_getElem?_getD, List.getElem?_replicate]
  simp [hi]
end Go.Proofs.YthmndclmecnpmaaDoor
