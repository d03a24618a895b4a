/- Calendar: TrimLeft and TrimRight of digits; the units by number. -/
import Derived.Test.YthkkjfofpoifiaaDoorCalSp
import Derived.Test.YthkkjfofpoifiaaDoorCalN
import Derived.Shelf.Strings.SlTrimAscii
namespace Go.Proofs.YthkkjfofpoifiaaDoor
open Go.RowKit

def tenB : ByteArray := ⟨#[48, 49, 50, 51, 52, 53, 54, 55, 56, 57]⟩
theorem contains_isDg : (fun c => dig10.contains c) = isDg := funext dig10_isDg
theorem tw_dw (l : List UInt8) : (l.takeWhile isDg).length + (l.dropWhile isDg).length = l.length := by
  have := congrArg List.length (List.takeWhile_append_dropWhile (p := isDg) (l := l))
  rw [List.length_append] at this
  exact this
/-- What TrimLeft of digits returns, by its size. -/
def TrimLPost (s : ByteArray) (w : World) (e : Ending) (w' : World) : Prop := ∃ q : ByteArray, e = .returned (.string q) ∧ (s.data.toList.takeWhile isDg).length + q.size = s.size ∧ Below w.heap.size w w'
theorem trimL_any (s : ByteArray) (w : World) : Calls Tryd.prog 56 #[.string s, .string ⟨#[48, 49, 50, 51, 52, 53, 54, 55, 56, 57]⟩] w (TrimLPost s w) := by
  refine (Any.strings_TrimLeft_laid Tryd.lays161 (by kernel_rfl) s tenB w (by decide) (ascii_of_all (by decide))).mono ?_
  rintro e w' ⟨rfl, hb⟩
  refine ⟨_, rfl, ?_, hb⟩
  rw [← size_len, ← size_len s]
  show (s.data.toList.takeWhile isDg).length + (Lib.trimLeftS s.data.toList dig10).length = _
  unfold Lib.trimLeftS
  rw [show (fun x => dig10.contains x) = isDg from contains_isDg]
  exact tw_dw _
/-- What TrimRight of digits returns. -/
def TrimRPost (s : ByteArray) (w : World) (e : Ending) (w' : World) : Prop := ∃ q : ByteArray, e = .returned (.string q) ∧ q.data.toList = trimR s.data.toList ∧ Below w.heap.size w w'
theorem trimR_any (s : ByteArray) (hs : s.size ≤ 9223372036854775807) (w : World) : Calls Tryd.prog 57 #[.string s, .string ⟨#[48, 49, 50, 51, 52, 53, 54, 55, 56, 57]⟩] w (TrimRPost s w) := by
  refine (Any.strings_TrimRight_laid Tryd.lays162 (by kernel_rfl) s tenB w hs (by decide) (ascii_of_all (by decide))).mono ?_
  rintro e w' ⟨rfl, hb⟩
  refine ⟨_, rfl, ?_, hb⟩
  show Lib.trimRightS s.data.toList dig10 = _
  unfold Lib.trimRightS trimR
  rw [show (fun x => dig10.contains x) = isDg from contains_isDg]

theorem unit_at (k : Nat) (hk : k < 5) : ∃ (nm : ByteArray) (sz most : Nat), (∀ w, (Instr.index 61 unitsV (.int .i64 (k : Int))).run Tryd.prog w = .ok (.agg #[.string nm, .int .i64 (sz : Int), .int .i64 (most : Int)]) w) ∧ unitsL.drop k = (nm.data.toList, sz) :: unitsL.drop (k + 1) ∧ nm.size ≤ 2 ∧ sz ≤ 86400000 := by
  have hk5 : k = 0 ∨ k = 1 ∨ k = 2 ∨ k = 3 ∨ k = 4 := by omega
  rcases hk5 with rfl | rfl | rfl | rfl | rfl
  · exact ⟨⟨#[100]⟩, 86400000, 0, fun w => (uIdx w).1, rfl, by decide, by decide⟩
  · exact ⟨⟨#[104]⟩, 3600000, 23, fun w => (uIdx w).2.1, rfl, by decide, by decide⟩
  · exact ⟨⟨#[109]⟩, 60000, 59, fun w => (uIdx w).2.2.1, rfl, by decide, by decide⟩
  · exact ⟨⟨#[115]⟩, 1000, 59, fun w => (uIdx w).2.2.2.1, rfl, by decide, by decide⟩
  · exact ⟨⟨#[109, 115]⟩, 1, 999, fun w => (uIdx w).2.2.2.2, rfl, by decide, by decide⟩

end Go.Proofs.YthkkjfofpoifiaaDoor
