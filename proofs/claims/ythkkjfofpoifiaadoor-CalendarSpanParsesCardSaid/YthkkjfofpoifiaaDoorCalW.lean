/- Calendar: contracts of the program's functions of numbers. -/
import Derived.Test.YthkkjfofpoifiaaDoorRows
import Derived.Test.YthkkjfofpoifiaaDoorCalP
import Derived.WalkKit
import Derived.WalkSpells
import Derived.WalkLawsBesides
import Derived.Lib.Hide
import Derived.Deep.Cut
import Derived.Deep.CutRange
import Derived.Deep.DeepCutAuto
namespace Go.Proofs.YthkkjfofpoifiaaDoor
open Go.RowKit

theorem mIdx (w : World) : (Instr.index 64 (.agg #[.int .i64 31, .int .i64 28, .int .i64 31, .int .i64 30, .int .i64 31, .int .i64 30, .int .i64 31, .int .i64 31, .int .i64 30, .int .i64 31, .int .i64 30, .int .i64 31]) (.int .i64 0)).run Tryd.prog w = .ok (.int .i64 31) w ∧ (Instr.index 64 (.agg #[.int .i64 31, .int .i64 28, .int .i64 31, .int .i64 30, .int .i64 31, .int .i64 30, .int .i64 31, .int .i64 31, .int .i64 30, .int .i64 31, .int .i64 30, .int .i64 31]) (.int .i64 1)).run Tryd.prog w = .ok (.int .i64 28) w ∧ (Instr.index 64 (.agg #[.int .i64 31, .int .i64 28, .int .i64 31, .int .i64 30, .int .i64 31, .int .i64 30, .int .i64 31, .int .i64 31, .int .i64 30, .int .i64 31, .int .i64 30, .int .i64 31]) (.int .i64 2)).run Tryd.prog w = .ok (.int .i64 31) w ∧ (Instr.index 64 (.agg #[.int .i64 31, .int .i64 28, .int .i64 31, .int .i64 30, .int .i64 31, .int .i64 30, .int .i64 31, .int .i64 31, .int .i64 30, .int .i64 31, .int .i64 30, .int .i64 31]) (.int .i64 3)).run Tryd.prog w = .ok (.int .i64 30) w ∧ (Instr.index 64 (.agg #[.int .i64 31, .int .i64 28, .int .i64 31, .int .i64 30, .int .i64 31, .int .i64 30, .int .i64 31, .int .i64 31, .int .i64 30, .int .i64 31, .int .i64 30, .int .i64 31]) (.int .i64 4)).run Tryd.prog w = .ok (.int .i64 31) w ∧ (Instr.index 64 (.agg #[.int .i64 31, .int .i64 28, .int .i64 31, .int .i64 30, .int .i64 31, .int .i64 30, .int .i64 31, .int .i64 31, .int .i64 30, .int .i64 31, .int .i64 30, .int .i64 31]) (.int .i64 5)).run Tryd.prog w = .ok (.int .i64 30) w ∧ (Instr.index 64 (.agg #[.int .i64 31, .int .i64 28, .int .i64 31, .int .i64 30, .int .i64 31, .int .i64 30, .int .i64 31, .int .i64 31, .int .i64 30, .int .i64 31, .int .i64 30, .int .i64 31]) (.int .i64 6)).run Tryd.prog w = .ok (.int .i64 31) w ∧ (Instr.index 64 (.agg #[.int .i64 31, .int .i64 28, .int .i64 31, .int .i64 30, .int .i64 31, .int .i64 30, .int .i64 31, .int .i64 31, .int .i64 30, .int .i64 31, .int .i64 30, .int .i64 31]) (.int .i64 7)).run Tryd.prog w = .ok (.int .i64 31) w ∧ (Instr.index 64 (.agg #[.int .i64 31, .int .i64 28, .int .i64 31, .int .i64 30, .int .i64 31, .int .i64 30, .int .i64 31, .int .i64 31, .int .i64 30, .int .i64 31, .int .i64 30, .int .i64 31]) (.int .i64 8)).run Tryd.prog w = .ok (.int .i64 30) w ∧ (Instr.index 64 (.agg #[.int .i64 31, .int .i64 28, .int .i64 31, .int .i64 30, .int .i64 31, .int .i64 30, .int .i64 31, .int .i64 31, .int .i64 30, .int .i64 31, .int .i64 30, .int .i64 31]) (.int .i64 9)).run Tryd.prog w = .ok (.int .i64 31) w ∧ (Instr.index 64 (.agg #[.int .i64 31, .int .i64 28, .int .i64 31, .int .i64 30, .int .i64 31, .int .i64 30, .int .i64 31, .int .i64 31, .int .i64 30, .int .i64 31, .int .i64 30, .int .i64 31]) (.int .i64 10)).run Tryd.prog w = .ok (.int .i64 30) w ∧ (Instr.index 64 (.agg #[.int .i64 31, .int .i64 28, .int .i64 31, .int .i64 30, .int .i64 31, .int .i64 30, .int .i64 31, .int .i64 31, .int .i64 30, .int .i64 31, .int .i64 30, .int .i64 31]) (.int .i64 11)).run Tryd.prog w = .ok (.int .i64 31) w :=
  ⟨by kernel_rfl, by kernel_rfl, by kernel_rfl, by kernel_rfl, by kernel_rfl, by kernel_rfl, by kernel_rfl, by kernel_rfl, by kernel_rfl, by kernel_rfl, by kernel_rfl, by kernel_rfl⟩
theorem ret2_int {a b : Int} {v : Value} (h : a = b) : Ending.returned (.tuple #[.int .i64 a, v]) = Ending.returned (.tuple #[.int .i64 b, v]) := by rw [h]

set_option maxHeartbeats 400000 in
theorem in_yes (n lo hi : Int) (h1 : lo ≤ n) (h2 : n ≤ hi) (w : World) : Calls Tryd.prog 44 #[.int .i64 n, .int .i64 lo, .int .i64 hi] w fun e w' => e = .returned (.bool true) ∧ w = w' := by
  go_enter Tryd.func44, Tryd.ntmps44
  go_wp2
  go_ret
  exact ⟨rfl, rfl⟩
set_option maxHeartbeats 400000 in
theorem in_lo (n lo hi : Int) (h1 : n < lo) (w : World) : Calls Tryd.prog 44 #[.int .i64 n, .int .i64 lo, .int .i64 hi] w fun e w' => e = .returned (.bool false) ∧ w = w' := by
  have h2 : ¬ lo ≤ n := by omega
  go_enter Tryd.func44, Tryd.ntmps44
  go_wp2
  go_ret
  exact ⟨rfl, rfl⟩
set_option maxHeartbeats 400000 in
theorem in_hi (n lo hi : Int) (h0 : lo ≤ n) (h1 : hi < n) (w : World) : Calls Tryd.prog 44 #[.int .i64 n, .int .i64 lo, .int .i64 hi] w fun e w' => e = .returned (.bool false) ∧ w = w' := by
  have h2 : ¬ n ≤ hi := by omega
  go_enter Tryd.func44, Tryd.ntmps44
  go_wp2
  go_ret
  exact ⟨rfl, rfl⟩
theorem in_no (n lo hi : Int) (h : ¬ (lo ≤ n ∧ n ≤ hi)) (w : World) : Calls Tryd.prog 44 #[.int .i64 n, .int .i64 lo, .int .i64 hi] w fun e w' => e = .returned (.bool false) ∧ w = w' := by
  by_cases h1 : n < lo
  · exact in_lo n lo hi h1 w
  · exact in_hi n lo hi (by omega) (by omega) w

set_option maxHeartbeats 400000 in
theorem leap_out (y : Int) (h : ¬ (1 ≤ y ∧ y ≤ 9999)) (w : World) : Calls Tryd.prog 17 #[.int .i64 y] w fun e w' => e = .returned (.bool false) ∧ w = w' := by
  have H := Lib.hid h
  clear h
  go_enter Tryd.func17, Tryd.ntmps17
  go_wp2_with fail
  refine (in_no _ _ _ H.out _).mono ?_
  rintro e w' ⟨rfl, rfl⟩
  go_wp2_with fail
  go_ret
  exact ⟨rfl, rfl⟩
set_option maxHeartbeats 400000 in
theorem leap_yes (y : Int) (h1 : 1 ≤ y) (h2 : y ≤ 9999) (h : lp y = 1) (w : World) : Calls Tryd.prog 17 #[.int .i64 y] w fun e w' => e = .returned (.bool true) ∧ w = w' := by
  have hc : y % 4 = 0 ∧ (y % 100 ≠ 0 ∨ y % 400 = 0) := by unfold lp at h; split at h; assumption; omega
  clear h
  obtain ⟨a, b⟩ := hc
  by_cases c : y % 100 = 0
  · have d : y % 400 = 0 := by omega
    have c1 : (y % 100 != 0) = false := by simp [c]
    clear b
    go_enter Tryd.func17, Tryd.ntmps17
    go_wp2_with fail
    refine (in_yes _ _ _ h1 h2 _).mono ?_
    rintro e w' ⟨rfl, rfl⟩
    go_wp2_with fail
    go_ret
    exact ⟨rfl, rfl⟩
  · have c1 : (y % 100 != 0) = true := by simp [c]
    clear b
    go_enter Tryd.func17, Tryd.ntmps17
    go_wp2_with fail
    refine (in_yes _ _ _ h1 h2 _).mono ?_
    rintro e w' ⟨rfl, rfl⟩
    go_wp2_with fail
    go_ret
    exact ⟨rfl, rfl⟩
set_option maxHeartbeats 400000 in
theorem leap_no (y : Int) (h1 : 1 ≤ y) (h2 : y ≤ 9999) (h : lp y = 0) (w : World) : Calls Tryd.prog 17 #[.int .i64 y] w fun e w' => e = .returned (.bool false) ∧ w = w' := by
  have hc : ¬ (y % 4 = 0 ∧ (y % 100 ≠ 0 ∨ y % 400 = 0)) := by unfold lp at h; split at h; omega; assumption
  clear h
  by_cases a : y % 4 = 0
  · have c : y % 100 = 0 := by omega
    have d : ¬ y % 400 = 0 := by omega
    have c1 : (y % 100 != 0) = false := by simp [c]
    have d1 : (y % 400 == 0) = false := by simp [d]
    clear hc
    go_enter Tryd.func17, Tryd.ntmps17
    go_wp2_with fail
    refine (in_yes _ _ _ h1 h2 _).mono ?_
    rintro e w' ⟨rfl, rfl⟩
    go_wp2_with fail
    go_ret
    exact ⟨rfl, rfl⟩
  · have a1 : (y % 4 == 0) = false := by simp [a]
    clear hc
    go_enter Tryd.func17, Tryd.ntmps17
    go_wp2_with fail
    refine (in_yes _ _ _ h1 h2 _).mono ?_
    rintro e w' ⟨rfl, rfl⟩
    go_wp2_with fail
    go_ret
    exact ⟨rfl, rfl⟩

set_option maxRecDepth 100000 in
set_option maxHeartbeats 1000000 in
theorem monthDays_two (y : Int) (h1 : 1 ≤ y) (h2 : y ≤ 9999) (w : World) : Calls Tryd.prog 45 #[.int .i64 y, .int .i64 2] w fun e w' => e = .returned (.int .i64 (mdays y 2)) ∧ w = w' := by
  have hl := lp_01 y
  by_cases h : lp y = 1
  · have e2 : mdays y 2 = 29 := by unfold mdays; rw [if_neg (by omega), if_pos rfl, h]; rfl
    rw [e2]
    have H := Lib.hid h
    clear h hl e2
    go_enter Tryd.func45, Tryd.ntmps45
    go_wp2_with fail
    refine (leap_yes y h1 h2 H.out _).mono ?_
    rintro e w' ⟨rfl, rfl⟩
    go_wp2_with fail
    go_ret
    exact ⟨rfl, rfl⟩
  · have h0 : lp y = 0 := by omega
    have e2 : mdays y 2 = 28 := by unfold mdays; rw [if_neg (by omega), if_pos rfl, h0]; rfl
    rw [e2]
    have H := Lib.hid h0
    clear h hl e2 h0
    obtain ⟨i0, i1, i2, i3, i4, i5, i6, i7, i8, i9, i10, i11⟩ := mIdx w
    go_enter Tryd.func45, Tryd.ntmps45
    go_wp2_with fail
    refine (leap_no y h1 h2 H.out _).mono ?_
    rintro e w' ⟨rfl, rfl⟩
    go_wp2_with fail
    go_ret
    exact ⟨rfl, rfl⟩
set_option maxRecDepth 100000 in
set_option maxHeartbeats 4000000 in
theorem monthDays_any (y m : Int) (h1 : 1 ≤ y) (h2 : y ≤ 9999) (h3 : 1 ≤ m) (h4 : m ≤ 12) (w : World) : Calls Tryd.prog 45 #[.int .i64 y, .int .i64 m] w fun e w' => e = .returned (.int .i64 (mdays y m)) ∧ w = w' := by
  rcases m_cases h3 h4 with rfl | rfl | rfl | rfl | rfl | rfl | rfl | rfl | rfl | rfl | rfl | rfl
  case inr.inl => exact monthDays_two y h1 h2 w
  all_goals
    clear h3 h4
    obtain ⟨i0, i1, i2, i3, i4, i5, i6, i7, i8, i9, i10, i11⟩ := mIdx w
    go_enter Tryd.func45, Tryd.ntmps45
    go_wp2_with fail
    go_ret
    exact ⟨rfl, rfl⟩

set_option maxHeartbeats 400000 in
theorem MonthDays_yes (y m : Int) (h1 : 1 ≤ y) (h2 : y ≤ 9999) (h3 : 1 ≤ m) (h4 : m ≤ 12) (w : World) : Calls Tryd.prog 14 #[.int .i64 y, .int .i64 m] w fun e w' => e = .returned (.tuple #[.int .i64 (mdays y m), .int .i64 0]) ∧ w = w' := by
  go_enter Tryd.func14, Tryd.ntmps14
  go_wp2_with fail
  refine (in_yes _ _ _ h1 h2 _).mono ?_
  rintro e w' ⟨rfl, rfl⟩
  go_wp2_with fail
  refine (in_yes _ _ _ h3 h4 _).mono ?_
  rintro e w' ⟨rfl, rfl⟩
  go_wp2_with fail
  refine (monthDays_any _ _ h1 h2 h3 h4 _).mono ?_
  rintro e w' ⟨rfl, rfl⟩
  go_wp2_with fail
  go_ret2
  exact ⟨rfl, rfl⟩
set_option maxHeartbeats 400000 in
theorem MonthDays_no (y m : Int) (h : ¬ (1 ≤ y ∧ y ≤ 9999 ∧ 1 ≤ m ∧ m ≤ 12)) (w : World) : Calls Tryd.prog 14 #[.int .i64 y, .int .i64 m] w fun e w' => e = .returned (.tuple #[.int .i64 0, .int .i64 17]) ∧ w = w' := by
  by_cases hy : 1 ≤ y ∧ y ≤ 9999
  · have hm : ¬ (1 ≤ m ∧ m ≤ 12) := by omega
    have HY := Lib.hid hy
    have HM := Lib.hid hm
    clear h hy hm
    go_enter Tryd.func14, Tryd.ntmps14
    go_wp2_with fail
    refine (in_yes _ _ _ HY.out.1 HY.out.2 _).mono ?_
    rintro e w' ⟨rfl, rfl⟩
    go_wp2_with fail
    refine (in_no _ _ _ HM.out _).mono ?_
    rintro e w' ⟨rfl, rfl⟩
    go_wp2_with fail
    go_ret2
    exact ⟨rfl, rfl⟩
  · have HY := Lib.hid hy
    clear h hy
    go_enter Tryd.func14, Tryd.ntmps14
    go_wp2_with fail
    refine (in_no _ _ _ HY.out _).mono ?_
    rintro e w' ⟨rfl, rfl⟩
    go_wp2_with fail
    go_ret2
    exact ⟨rfl, rfl⟩

set_option maxHeartbeats 400000 in
theorem before_any (y : Int) (h1 : 1 ≤ y) (h2 : y ≤ 10000) (w : World) : Calls Tryd.prog 46 #[.int .i64 y] w fun e w' => e = .returned (.int .i64 (bef y)) ∧ w = w' := by
  unfold bef
  go_enter Tryd.func46, Tryd.ntmps46
  go_wp2_with fail
  go_ret
  exact ⟨rfl, rfl⟩

set_option maxHeartbeats 1000000 in
theorem Days_yes (y m d : Int) (h : Date y m d) (w : World) : Calls Tryd.prog 19 #[.int .i64 y, .int .i64 m, .int .i64 d] w fun e w' => e = .returned (.tuple #[.int .i64 (dnum y m d), .int .i64 0]) ∧ w = w' := by
  have y1 := h.y1
  have y2 := h.y2
  have m1 := h.m1
  have m2 := h.m2
  have d1 := h.d1
  have d2 := h.d2
  have hb := bef_bd y h.y1 (by omega)
  have hm := mdays_bd y m
  clear h
  go_enter Tryd.func19, Tryd.ntmps19
  go_wp2_with fail
  refine (MonthDays_yes _ _ y1 y2 m1 m2 _).mono ?_
  rintro e w' ⟨rfl, rfl⟩
  go_wp2_with fail
  refine (in_yes _ _ _ d1 d2 _).mono ?_
  rintro e w' ⟨rfl, rfl⟩
  go_wp2_with fail
  refine (before_any _ y1 (by omega) _).mono ?_
  rintro e w' ⟨rfl, rfl⟩
  go_wp2_with fail
  go_loop [10, 11] (fun s i => ∃ k : Int, 1 ≤ k ∧ k ≤ m ∧ i = .int .i64 k ∧ s = .int .i64 (-719162 + bef y + d - 1 + cum y k)) (fun _ i => (m - intOf i).toNat)
  case atStart => exact ⟨1, by omega, m1, rfl, by rw [cum_one, Int.add_zero]⟩
  case round =>
    obtain ⟨k, k1, k2, rfl, rfl⟩ := hrel
    have hc := cum_bd y k
    by_cases hk : k < m
    · have hmk := mdays_bd y k
      have HC := Lib.hid (cum_succ y k k1 (by omega))
      go_wp2_with fail
      refine (monthDays_any _ _ y1 y2 k1 (by omega) _).mono ?_
      rintro e w' ⟨rfl, rfl⟩
      go_wp2_with fail
      go_round
      case rel => exact ⟨k + 1, by omega, by omega, rfl, by rw [HC.out]; go_num⟩
      case measure => simp [intOf]; omega
    · obtain rfl : m = k := by omega
      go_wp2_with fail
      go_ret2
      exact ⟨ret2_int (by unfold dnum; omega), rfl⟩

set_option maxHeartbeats 1000000 in
theorem Days_no (y m d : Int) (h : ¬ Date y m d) (w : World) : Calls Tryd.prog 19 #[.int .i64 y, .int .i64 m, .int .i64 d] w fun e w' => e = .returned (.tuple #[.int .i64 0, .int .i64 17]) ∧ w = w' := by
  by_cases hm : 1 ≤ y ∧ y ≤ 9999 ∧ 1 ≤ m ∧ m ≤ 12
  · have hd : ¬ (1 ≤ d ∧ d ≤ mdays y m) := fun x => h ⟨hm.1, hm.2.1, hm.2.2.1, hm.2.2.2, x.1, x.2⟩
    have HM := Lib.hid hm
    have HD := Lib.hid hd
    clear h hm hd
    go_enter Tryd.func19, Tryd.ntmps19
    go_wp2_with fail
    refine (MonthDays_yes _ _ HM.out.1 HM.out.2.1 HM.out.2.2.1 HM.out.2.2.2 _).mono ?_
    rintro e w' ⟨rfl, rfl⟩
    go_wp2_with fail
    refine (in_no _ _ _ HD.out _).mono ?_
    rintro e w' ⟨rfl, rfl⟩
    go_wp2_with fail
    go_ret2
    exact ⟨rfl, rfl⟩
  · have HM := Lib.hid hm
    clear h hm
    go_enter Tryd.func19, Tryd.ntmps19
    go_wp2_with fail
    refine (MonthDays_no _ _ HM.out _).mono ?_
    rintro e w' ⟨rfl, rfl⟩
    go_wp2_with fail
    go_ret2
    exact ⟨rfl, rfl⟩

/-- What Civil returns. -/
def CivPost (n : Int) (w : World) (e : Ending) (w' : World) : Prop := ∃ y m d, Date y m d ∧ dnum y m d = n ∧ e = .returned (.tuple #[.int .i64 y, .int .i64 m, .int .i64 d, .int .i64 0]) ∧ w = w'
theorem civ_fin {n y k : Int} (y1 : 1 ≤ y) (y2 : y ≤ 9999) (k1 : 1 ≤ k) (k2 : k ≤ 12) (h1 : 0 ≤ n + 719162 - bef y - cum y k) (h2 : n + 719162 - bef y - cum y k < mdays y k) : Date y k (n + 719162 - bef y - cum y k + 1) ∧ dnum y k (n + 719162 - bef y - cum y k + 1) = n :=
  ⟨⟨y1, y2, k1, k2, by omega, by omega⟩, by unfold dnum; omega⟩
set_option maxHeartbeats 400000 in
theorem Civil_no (n : Int) (h : ¬ (-719162 ≤ n ∧ n ≤ 2932896)) (w : World) : Calls Tryd.prog 21 #[.int .i64 n] w fun e w' => e = .returned (.tuple #[.int .i64 0, .int .i64 0, .int .i64 0, .int .i64 2]) ∧ w = w' := by
  have H := Lib.hid h
  clear h
  go_enter Tryd.func21, Tryd.ntmps21
  go_wp2_with fail
  refine (in_no _ _ _ H.out _).mono ?_
  rintro e w' ⟨rfl, rfl⟩
  go_wp2_with fail
  exact bodyPost_ret (v := .tuple #[.int .i64 0, .int .i64 0, .int .i64 0, .int .i64 2]) (by simp [results, Tryd.results21, go_sem]) rfl ⟨rfl, rfl⟩
/-- The first guess of the year. -/
def GuessMid (n : Int) (w : World) (t : Value) (wx : World) : Prop := ∃ y : Int, 1 ≤ y ∧ y ≤ 9999 ∧ Hid (n + 719162 < bef (y + 1)) ∧ t = .int .i64 y ∧ w = wx
set_option maxHeartbeats 2000000 in
theorem Civil_yes (n : Int) (h1 : -719162 ≤ n) (h2 : n ≤ 2932896) (w : World) : Calls Tryd.prog 21 #[.int .i64 n] w (CivPost n w) := by
  have HG := Lib.hid (bef_guess_hi (n + 719162) (by omega))
  go_enter Tryd.func21, Tryd.ntmps21
  go_wp2_with fail
  refine (in_yes _ _ _ h1 h2 _).mono ?_
  rintro e w' ⟨rfl, rfl⟩
  go_upto_region 4 with fail
  go_cut [2] (fun t wx => GuessMid n w t wx)
  case first =>
    go_wp2_with fail
    all_goals
      go_meet
      first
        | exact ⟨(n + 719162) / 365 + 1, by omega, by omega, Lib.hid (by rw [show (n + 719162) / 365 + 1 + 1 = (n + 719162) / 365 + 2 by omega]; exact HG.out), rfl, rfl⟩
        | exact ⟨9999, by omega, by omega, Lib.hid (by have := bef_max; show _ < bef 10000; omega), rfl, rfl⟩
  case rest =>
    obtain ⟨y0, a1, a2, HY0, rfl, rfl⟩ := hcut
    clear HG
    go_wp2_with fail
    go_loop [2] (fun t => ∃ y : Int, 1 ≤ y ∧ y ≤ 9999 ∧ Hid (n + 719162 < bef (y + 1)) ∧ t = .int .i64 y) (fun t => (intOf t).toNat)
    case atStart => exact ⟨y0, a1, a2, HY0, rfl⟩
    case round =>
      obtain ⟨y, y1, y2, HY, rfl⟩ := hrel
      have hb := bef_bd y y1 (by omega)
      have hy1 : bef 1 = 0 := bef_one
      by_cases hc : n + 719162 < bef y
      · have y3 : 2 ≤ y := by
          rcases Int.lt_or_le 1 y with c | c
          · omega
          · obtain rfl : y = 1 := by omega
            omega
        clear hy1
        go_wp2_with fail
        refine (before_any _ y1 (by omega) _).mono ?_
        rintro e w' ⟨rfl, rfl⟩
        go_wp2_with fail
        go_round
        case rel => exact ⟨y - 1, by omega, by omega, Lib.hid (by rw [show y - 1 + 1 = y by omega]; exact hc), rfl⟩
        case measure => simp [intOf]; omega
      · have hn : bef y ≤ n + 719162 := by omega
        have hl : n + 719162 < bef y + 366 := by have := HY.out; have := bef_succ y; have := lp_01 y; omega
        clear hy1 hc
        go_wp2_with fail
        refine (before_any _ y1 (by omega) _).mono ?_
        rintro e w' ⟨rfl, rfl⟩
        go_wp2_with fail
        refine (before_any _ y1 (by omega) _).mono ?_
        rintro e w' ⟨rfl, rfl⟩
        go_wp2_with fail
        go_loop [3, 6] (fun k s => ∃ m : Int, 1 ≤ m ∧ m ≤ 12 ∧ k = .int .i64 m ∧ 0 ≤ n + 719162 - bef y - cum y m ∧ s = .int .i64 (n + 719162 - bef y - cum y m)) (fun k _ => (12 - intOf k).toNat)
        case atStart => exact ⟨1, by omega, by omega, rfl, by rw [cum_one]; omega, by rw [cum_one, Int.sub_zero]⟩
        case round =>
          obtain ⟨m, m1, m2, rfl, hr, rfl⟩ := hrel
          have hcm := cum_bd y m
          have hmd := mdays_bd y m
          have HCS := Lib.hid (cum_succ y m m1 m2)
          by_cases hm : mdays y m ≤ n + 719162 - bef y - cum y m
          · have m3 : m < 12 := by
              rcases Int.lt_or_le m 12 with c | c
              · exact c
              · obtain rfl : m = 12 := by omega
                have e := HCS.out
                rw [show (12 : Int) + 1 = 13 from rfl, cum_13] at e
                have := HY.out
                have := bef_succ y
                omega
            go_wp2_with fail
            refine (monthDays_any _ _ y1 y2 m1 m2 _).mono ?_
            rintro e w' ⟨rfl, rfl⟩
            go_wp2_with fail
            refine (monthDays_any _ _ y1 y2 m1 m2 _).mono ?_
            rintro e w' ⟨rfl, rfl⟩
            go_wp2_with fail
            go_round
            case rel => exact ⟨m + 1, by omega, by omega, rfl, by rw [HCS.out]; omega, by rw [HCS.out]; go_num⟩
            case measure => simp [intOf]; omega
          · have hm' : n + 719162 - bef y - cum y m < mdays y m := by omega
            have HF := Lib.hid (civ_fin y1 y2 m1 m2 hr hm')
            go_wp2_with fail
            refine (monthDays_any _ _ y1 y2 m1 m2 _).mono ?_
            rintro e w' ⟨rfl, rfl⟩
            go_wp2_with fail
            exact bodyPost_ret (v := .tuple #[.int .i64 y, .int .i64 m, .int .i64 (n + 719162 - bef y - cum y m + 1), .int .i64 0]) (by simp [results, Tryd.results21, go_sem]) rfl ⟨_, _, _, HF.out.1, HF.out.2, rfl, rfl⟩
end Go.Proofs.YthkkjfofpoifiaaDoor
