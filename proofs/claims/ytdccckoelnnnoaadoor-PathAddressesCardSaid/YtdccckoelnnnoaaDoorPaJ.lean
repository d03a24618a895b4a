/- Path: IndexRune of the three letters at a rune that is no ASCII. -/
import Derived.Test.YtdccckoelnnnoaaDoorPaI
import Derived.Laws.Runes
import Derived.Laws.RangeString
import Derived.Deep.LoopGhost
namespace Go.Proofs.YtdccckoelnnnoaaDoor
open Go.RowKit
attribute [local go_sem ↓] Go.wp_at_zero Go.wp_at_succ

def stops : ByteArray := ⟨#[46, 91, 63]⟩
theorem stops_get (i : Nat) (h : i < stops.size) : (stops[i]'h).toNat < 128 := by
  have h3 : i < 3 := h
  rcases i with _ | _ | _ | i
  · show (46 : UInt8).toNat < 128; decide
  · show (91 : UInt8).toNat < 128; decide
  · show (63 : UInt8).toNat < 128; decide
  · omega
theorem iter_only (w : World) (s : ByteArray) (p : Nat) : Only Nobody w (w.iter s p) := (Only.refl _ _).alloc _
set_option maxRecDepth 100000 in
set_option maxHeartbeats 4000000 in
theorem rune_bad (w : World) : Calls Tryd.prog 67 #[.string stops, .int .i32 65533] w fun e w' => e = .returned (.int .i64 (-1)) ∧ Only Nobody w w' := by
  obtain ⟨s, HS⟩ : ∃ s, Hid (stops = s) := ⟨_, Lib.hid rfl⟩
  have HG : Hid (∀ i (h : i < s.size), (s[i]'h).toNat < 128) := Lib.hid (by rw [← HS.out]; exact stops_get)
  rw [HS.out]
  go_enter Tryd.func67, Tryd.ntmps67
  go_wp2_with fail
  go_loopg [5, 6] s.size (fun g _ _ wx => ∃ i : Nat, i + g = s.size ∧ wx = w.iter s i)
  case atStart => exact ⟨0, by omega, rfl⟩
  case round =>
    obtain ⟨i, hig, rfl⟩ := hrel
    cases gk with
    | zero =>
      obtain rfl : i = s.size := by omega
      have hnx := run_next_end (P := Tryd.prog) w s s.size
      go_wp2_with fail
      go_ret
      exact ⟨rfl, iter_only _ _ _⟩
    | succ g =>
      have hi : i < s.size := by omega
      have h128 := HG.out i hi
      obtain ⟨x, hx⟩ : ∃ x : Nat, (s[i]'hi).toNat = x := ⟨_, rfl⟩
      have hnx := fun ty => run_next_ascii (P := Tryd.prog) w s i ty hi h128
      rw [hx] at hnx h128
      have hxb : ((x : Int) == 65533) = false := by simp; omega
      go_wp2_with fail
      go_roundg g
      case measure => omega
      case rel => exact ⟨i + 1, by omega, rfl⟩
end Go.Proofs.YtdccckoelnnnoaaDoor
