/- The walks of Send: the first errors. -/
import Derived.Test.YthmndclmecnpmaaDoorWNetV
namespace Go.Proofs.YthmndclmecnpmaaDoor.Nw
open Go.RowKit Go.Maps

set_option maxRecDepth 100000 in
set_option maxHeartbeats 1000000 in
theorem send_nil (a b c : ByteArray) (w : World) : Calls Tryd.prog 54 #[.pointer none, .string a, .string b, .string c] w fun e w' => e = .returned (.int .i64 1) ∧ w = w' := by
  go_enter Tryd.func54, Tryd.ntmps54
  go_wp2
  go_ret
  exact ⟨rfl, rfl⟩

set_option maxRecDepth 100000 in
set_option maxHeartbeats 1000000 in
theorem send_name (N : Nat) (a b c : ByteArray) (w : World) (h : (placeB a && placeB b) = false) : Calls Tryd.prog 54 #[.pointer (some ⟨N, 0, none⟩), .string a, .string b, .string c] w fun e w' => e = .returned (.int .i64 12) ∧ w = w' := by
  by_cases ha : placeB a = true
  · have hb : placeB b = false := by rw [ha] at h; simpa using h
    have HA := Lib.hid ha
    have HB := Lib.hid hb
    clear h ha hb
    go_enter Tryd.func54, Tryd.ntmps54
    go_wp2_with fail
    refine (place_any a w).mono ?_
    rw [HA.out]
    rintro e w' ⟨rfl, rfl⟩
    go_wp2_with fail
    refine (place_any b w).mono ?_
    rw [HB.out]
    rintro e w' ⟨rfl, rfl⟩
    go_wp2_with fail
    go_ret
    exact ⟨rfl, rfl⟩
  · have HA := Lib.hid (show placeB a = false by simpa using ha)
    clear h ha
    go_enter Tryd.func54, Tryd.ntmps54
    go_wp2_with fail
    refine (place_any a w).mono ?_
    rw [HA.out]
    rintro e w' ⟨rfl, rfl⟩
    go_wp2_with fail
    go_ret
    exact ⟨rfl, rfl⟩

set_option maxRecDepth 100000 in
set_option maxHeartbeats 1000000 in
theorem send_long (N : Nat) (a b c : ByteArray) (w : World) (h : (placeB a && placeB b) = true) (hc : 1048576 < c.size) (_hm : c.size ≤ maxLen) : Calls Tryd.prog 54 #[.pointer (some ⟨N, 0, none⟩), .string a, .string b, .string c] w fun e w' => e = .returned (.int .i64 5) ∧ w = w' := by
  obtain ⟨ha, hb⟩ : placeB a = true ∧ placeB b = true := by simpa using h
  have HA := Lib.hid ha
  have HB := Lib.hid hb
  clear h ha hb
  unfold maxLen at _hm
  go_enter Tryd.func54, Tryd.ntmps54
  go_wp2_with fail
  refine (place_any a w).mono ?_
  rw [HA.out]
  rintro e w' ⟨rfl, rfl⟩
  go_wp2_with fail
  refine (place_any b w).mono ?_
  rw [HB.out]
  rintro e w' ⟨rfl, rfl⟩
  go_wp2_with fail
  go_ret
  exact ⟨rfl, rfl⟩

end Go.Proofs.YthmndclmecnpmaaDoor.Nw
