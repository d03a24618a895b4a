/- The walk of the law NetworkNil. -/
import Derived.Test.YtbfkmdcjamillaaNetK
namespace Go.Proofs.Ytbfkmdcjamillaa
open Go.RowKit Go.Maps

set_option maxHeartbeats 1000000 in
theorem clone_net_nil (w : World) : Calls Try.prog 31 #[.pointer none] w fun e w' => e = .returned (.pointer none) ∧ w = w' := by
  go_enter Try.func31, Try.ntmps31
  go_wp2
  go_ret
  exact ⟨rfl, rfl⟩

set_option maxRecDepth 100000 in
set_option maxHeartbeats 2000000 in
theorem lawNil (a b c : ByteArray) (w : World) : Calls Try.prog 12 #[.string a, .string b, .string c] w fun e w' => e = .returned (.bool true) ∧ Below w.heap.size w w' := by
  go_enter Try.func12, Try.ntmps12
  go_wp2_with (first
    | (go_at_call 21; refine (step_nil _).mono ?_; rintro e w' ⟨rfl, rfl⟩)
    | (go_at_call 29; refine (cut_nil _ _ _).mono ?_; rintro e w' ⟨rfl, rfl⟩)
    | (go_at_call 30; refine (join_nil _ _ _).mono ?_; rintro e w' ⟨rfl, rfl⟩)
    | (go_at_call 15; refine (known_any _).mono ?_; rintro e w1 ⟨rfl, hb⟩)
    | (go_at_call 20; refine (send_nil _ _ _ _).mono ?_; rintro e w' ⟨rfl, rfl⟩)
    | (go_at_call 18; refine (receive_nil _ _).mono ?_; rintro e w' ⟨rfl, rfl⟩)
    | (go_at_call 32; refine (now_nil _).mono ?_; rintro e w' ⟨rfl, rfl⟩)
    | (go_at_call 22; refine (pending_nil _).mono ?_; rintro e w' ⟨rfl, rfl⟩)
    | (go_at_call 23; refine (sent_nil _).mono ?_; rintro e w' ⟨rfl, rfl⟩)
    | (go_at_call 25; refine (lost_nil _).mono ?_; rintro e w' ⟨rfl, rfl⟩)
    | (go_at_call 31; refine (clone_net_nil _).mono ?_; rintro e w' ⟨rfl, rfl⟩))
  go_ret
  exact ⟨rfl, hb⟩

theorem walkNil (a : ByteArray) (_ : a.size ≤ maxLen) (_ : a.size ≤ reachBytes) (b : ByteArray) (_ : b.size ≤ maxLen) (_ : b.size ≤ reachBytes) (c : ByteArray) (_ : c.size ≤ maxLen) (_ : c.size ≤ reachBytes) (w : World) :
    Calls Try.prog 12 #[.string a, .string b, .string c] w fun e w' => e = .returned (.bool true) ∧ Below w.heap.size w w' := lawNil a b c w

end Go.Proofs.Ytbfkmdcjamillaa
