import Derived.Test.YthmndclmecnpmaaDoorWords
namespace Go.Proofs.YthmndclmecnpmaaDoor.Nw
open Go.RowKit

set_option maxRecDepth 100000 in
set_option maxHeartbeats 400000 in
theorem isNaN_any (a : Int) (w : World) :
    Calls Tryd.prog 121 #[.int .i64 a] w fun e w' => e = .returned (.bool false) ∧ w = w' := by
  go_enter Tryd.func121, Tryd.ntmps121
  go_wp2
  go_ret
  exact ⟨rfl, rfl⟩

/-- What cmp.Compare gives. -/
def cmpI (a b : Int) : Int := if a < b then -1 else if b < a then 1 else 0

set_option maxRecDepth 100000 in
set_option maxHeartbeats 400000 in
theorem compare_any (a b : Int) (w : World) :
    Calls Tryd.prog 120 #[.int .i64 a, .int .i64 b] w fun e w' => e = .returned (.int .i64 (cmpI a b)) ∧ w = w' := by
  by_cases h : a < b
  · go_enter Tryd.func120, Tryd.ntmps120
    go_wp2
    go_ret
    exact ⟨by simp [cmpI, h], rfl⟩
  · by_cases h2 : b < a
    · go_enter Tryd.func120, Tryd.ntmps120
      go_wp2
      go_ret
      exact ⟨by simp [cmpI, h2]; omega, rfl⟩
    · go_enter Tryd.func120, Tryd.ntmps120
      go_wp2
      go_ret
      exact ⟨by simp [cmpI]; omega, rfl⟩

/-- What network.place gives. -/
def placeB (s : ByteArray) : Bool := decide (0 < s.size) && decide (s.size ≤ 64)

set_option maxRecDepth 100000 in
set_option maxHeartbeats 400000 in
theorem place_any (s : ByteArray) (w : World) :
    Calls Tryd.prog 62 #[.string s] w fun e w' => e = .returned (.bool (placeB s)) ∧ w = w' := by
  have hl : s.toList.length = s.size := by rw [ByteArray.toList_eq]; exact Array.length_toList
  by_cases h : s.toList = []
  · have h0 : s.size = 0 := by rw [← hl, h]; rfl
    clear hl
    go_enter Tryd.func62, Tryd.ntmps62
    go_wp2
    go_ret
    exact ⟨by simp [placeB, h0], rfl⟩
  · have h0 : 0 < s.size := by rw [← hl]; exact List.length_pos_iff.2 h
    clear hl
    go_enter Tryd.func62, Tryd.ntmps62
    go_wp2
    go_ret
    refine ⟨?_, rfl⟩
    have e : s.toList.isEmpty = false := by simpa using h
    simp [placeB, h0, e]; omega

/-- What cmp.Or gives of three. -/
def orI (x y z : Int) : Int := if x = 0 then if y = 0 then z else y else x

set_option maxRecDepth 100000 in
set_option maxHeartbeats 1000000 in
theorem or_any (x y z : Int) (g : Nat) (w : World) (h0 : w.cell? ⟨g, 0, none⟩ = some (.int .i64 x)) (h1 : w.cell? ⟨g, 1, none⟩ = some (.int .i64 y)) (h2 : w.cell? ⟨g, 2, none⟩ = some (.int .i64 z)) :
    Calls Tryd.prog 119 #[.slice (some ⟨g, 0, none⟩) 3 3] w fun e w' => e = .returned (.int .i64 (orI x y z)) ∧ w = w' := by
  by_cases hx : x = 0
  · by_cases hy : y = 0
    · by_cases hz : z = 0
      · subst hx hy hz
        go_enter Tryd.func119, Tryd.ntmps119
        go_wp2
        refine wp_loop_rounds 4 ?_
        rw [rounds_succ]
        go_wp2
        rw [rounds_succ]
        go_wp2
        rw [rounds_succ]
        go_wp2
        rw [rounds_succ]
        go_wp2
        go_ret
        exact ⟨ret_int (by simp [orI]), rfl⟩
      · subst hx hy
        go_enter Tryd.func119, Tryd.ntmps119
        go_wp2
        refine wp_loop_rounds 4 ?_
        rw [rounds_succ]
        go_wp2
        rw [rounds_succ]
        go_wp2
        rw [rounds_succ]
        go_wp2
        go_ret
        exact ⟨ret_int (by simp [orI]), rfl⟩
    · subst hx
      go_enter Tryd.func119, Tryd.ntmps119
      go_wp2
      refine wp_loop_rounds 4 ?_
      rw [rounds_succ]
      go_wp2
      rw [rounds_succ]
      go_wp2
      go_ret
      exact ⟨ret_int (by simp [orI, hy]), rfl⟩
  · go_enter Tryd.func119, Tryd.ntmps119
    go_wp2
    refine wp_loop_rounds 4 ?_
    rw [rounds_succ]
    go_wp2
    go_ret
    exact ⟨ret_int (by simp [orI, hx]), rfl⟩

set_option maxRecDepth 100000 in
theorem compare_still (a b : Int) (w : World) :
    Calls Tryd.prog 120 #[.int .i64 a, .int .i64 b] w fun e w' => e = .returned (.int .i64 (cmpI a b)) ∧ w' = w :=
  (compare_any a b w).mono fun _ _ ⟨h1, h2⟩ => ⟨h1, h2.symm⟩

set_option maxRecDepth 100000 in
theorem cmpI_zero {a b : Int} : cmpI a b = 0 ↔ a = b := by unfold cmpI; (repeat' split) <;> omega

/-- The order of the copies. -/
def ltI (a0 a1 a2 b0 b1 b2 : Int) : Bool := decide (a0 < b0) || (a0 == b0 && (decide (a1 < b1) || (a1 == b1 && decide (a2 < b2))))

set_option maxRecDepth 100000 in
theorem ltI_cmp (a0 a1 a2 b0 b1 b2 : Int) : decide (orI (cmpI a0 b0) (cmpI a1 b1) (cmpI a2 b2) < 0) = ltI a0 a1 a2 b0 b1 b2 := by
  have h : ∀ a b : Int, (a < b ∧ cmpI a b = -1) ∨ (a = b ∧ cmpI a b = 0) ∨ (b < a ∧ cmpI a b = 1) := by
    intro a b; unfold cmpI; (repeat' split) <;> omega
  rw [Bool.eq_iff_iff]
  simp only [decide_eq_true_eq, ltI, Bool.or_eq_true, Bool.and_eq_true, beq_iff_eq]
  rcases h a0 b0 with ⟨p, q⟩ | ⟨p, q⟩ | ⟨p, q⟩ <;> rcases h a1 b1 with ⟨p1, q1⟩ | ⟨p1, q1⟩ | ⟨p1, q1⟩ <;> rcases h a2 b2 with ⟨p2, q2⟩ | ⟨p2, q2⟩ | ⟨p2, q2⟩ <;> simp [orI, q, q1, q2] <;> omega

end Go.Proofs.YthmndclmecnpmaaDoor.Nw
