/- Calendar: contracts of the reference's functions of numbers. -/
import Derived.Test.YthkkjfofpoifiaaDoorCalV
import Derived.Below
namespace Go.Proofs.YthkkjfofpoifiaaDoor
open Go.RowKit

theorem ret2_snd {a b : Int} {u : Value} (h : a = b) : Ending.returned (.tuple #[u, .int .i64 a]) = Ending.returned (.tuple #[u, .int .i64 b]) := by rw [h]

set_option maxHeartbeats 400000 in
theorem rIn_yes (n : Int) (h1 : -719162 ≤ n) (h2 : n ≤ 2932896) (w : World) : Calls Tryd.prog 23 #[.int .i64 n] w fun e w' => e = .returned (.bool true) ∧ w = w' := by
  go_enter Tryd.func23, Tryd.ntmps23
  go_wp2
  go_ret
  exact ⟨rfl, rfl⟩
set_option maxHeartbeats 400000 in
theorem rIn_no (n : Int) (h : ¬ (-719162 ≤ n ∧ n ≤ 2932896)) (w : World) : Calls Tryd.prog 23 #[.int .i64 n] w fun e w' => e = .returned (.bool false) ∧ w = w' := by
  by_cases h1 : -719162 ≤ n
  · have h2 : ¬ n ≤ 2932896 := by omega
    clear h
    go_enter Tryd.func23, Tryd.ntmps23
    go_wp2
    go_ret
    exact ⟨rfl, rfl⟩
  · clear h
    go_enter Tryd.func23, Tryd.ntmps23
    go_wp2
    go_ret
    exact ⟨rfl, rfl⟩

/-- Whether a year is a leap year. -/
def leapB (y : Int) : Bool := decide (1 ≤ y ∧ y ≤ 9999 ∧ lp y = 1)
set_option maxHeartbeats 1000000 in
theorem rLeap_yes (y : Int) (h1 : 1 ≤ y) (h2 : y ≤ 9999) (h : lp y = 1) (w : World) : Calls Tryd.prog 18 #[.int .i64 y] w fun e w' => e = .returned (.bool true) ∧ w = w' := by
  have hc : y % 4 = 0 ∧ (y % 100 ≠ 0 ∨ y % 400 = 0) := by unfold lp at h; split at h; assumption; omega
  clear h
  obtain ⟨a, b⟩ := hc
  by_cases c : y % 100 = 0
  · have d : y % 400 = 0 := by omega
    have c1 : (y % 100 != 0) = false := by simp [c]
    clear b
    go_enter Tryd.func18, Tryd.ntmps18
    go_wp2
    go_ret
    exact ⟨rfl, rfl⟩
  · have c1 : (y % 100 != 0) = true := by simp [c]
    clear b
    go_enter Tryd.func18, Tryd.ntmps18
    go_wp2
    go_ret
    exact ⟨rfl, rfl⟩
set_option maxHeartbeats 1000000 in
theorem rLeap_no (y : Int) (h1 : 1 ≤ y) (h2 : y ≤ 9999) (h : lp y = 0) (w : World) : Calls Tryd.prog 18 #[.int .i64 y] w fun e w' => e = .returned (.bool false) ∧ w = w' := by
  have hc : ¬ (y % 4 = 0 ∧ (y % 100 ≠ 0 ∨ y % 400 = 0)) := by unfold lp at h; split at h; omega; assumption
  clear h
  by_cases a : y % 4 = 0
  · have c : y % 100 = 0 := by omega
    have d : ¬ y % 400 = 0 := by omega
    have c1 : (y % 100 != 0) = false := by simp [c]
    have d1 : (y % 400 == 0) = false := by simp [d]
    clear hc
    go_enter Tryd.func18, Tryd.ntmps18
    go_wp2
    go_ret
    exact ⟨rfl, rfl⟩
  · have a1 : (y % 4 == 0) = false := by simp [a]
    have d : ¬ y % 400 = 0 := by omega
    have d1 : (y % 400 == 0) = false := by simp [d]
    clear hc
    go_enter Tryd.func18, Tryd.ntmps18
    go_wp2
    go_ret
    exact ⟨rfl, rfl⟩
set_option maxHeartbeats 1000000 in
theorem rLeap_out (y : Int) (h : ¬ (1 ≤ y ∧ y ≤ 9999)) (w : World) : Calls Tryd.prog 18 #[.int .i64 y] w fun e w' => e = .returned (.bool false) ∧ w = w' := by
  by_cases h1 : 1 ≤ y
  · have h2 : ¬ y ≤ 9999 := by omega
    clear h
    go_enter Tryd.func18, Tryd.ntmps18
    go_wp2
    go_ret
    exact ⟨rfl, rfl⟩
  · clear h
    go_enter Tryd.func18, Tryd.ntmps18
    go_wp2
    go_ret
    exact ⟨rfl, rfl⟩
theorem rLeap_any (y : Int) (w : World) : Calls Tryd.prog 18 #[.int .i64 y] w fun e w' => e = .returned (.bool (leapB y)) ∧ w = w' := by
  unfold leapB
  by_cases h : 1 ≤ y ∧ y ≤ 9999
  · have := lp_01 y
    by_cases hl : lp y = 1
    · rw [decide_eq_true ⟨h.1, h.2, hl⟩]; exact rLeap_yes y h.1 h.2 hl w
    · rw [decide_eq_false (fun x => hl x.2.2)]; exact rLeap_no y h.1 h.2 (by omega) w
  · rw [decide_eq_false (fun x => h ⟨x.1, x.2.1⟩)]; exact rLeap_out y h w
theorem leap_any (y : Int) (w : World) : Calls Tryd.prog 17 #[.int .i64 y] w fun e w' => e = .returned (.bool (leapB y)) ∧ w = w' := by
  unfold leapB
  by_cases h : 1 ≤ y ∧ y ≤ 9999
  · have := lp_01 y
    by_cases hl : lp y = 1
    · rw [decide_eq_true ⟨h.1, h.2, hl⟩]; exact leap_yes y h.1 h.2 hl w
    · rw [decide_eq_false (fun x => hl x.2.2)]; exact leap_no y h.1 h.2 (by omega) w
  · rw [decide_eq_false (fun x => h ⟨x.1, x.2.1⟩)]; exact leap_out y h w

set_option maxHeartbeats 4000000 in
theorem rMonth_yes (y m : Int) (h1 : 1 ≤ y) (h2 : y ≤ 9999) (h3 : 1 ≤ m) (h4 : m ≤ 12) (w : World) : Calls Tryd.prog 15 #[.int .i64 y, .int .i64 m] w fun e w' => e = .returned (.int .i64 (mdays y m)) ∧ Below w.heap.size w w' := by
  have hl := lp_01 y
  rcases m_cases h3 h4 with rfl | rfl | rfl | rfl | rfl | rfl | rfl | rfl | rfl | rfl | rfl | rfl
  case inr.inl =>
    by_cases h : lp y = 1
    · have e2 : mdays y 2 = 29 := by unfold mdays; rw [if_neg (by omega), if_pos rfl, h]; rfl
      rw [e2]
      have H := Lib.hid h
      clear h hl e2 h3 h4
      go_enter Tryd.func15, Tryd.ntmps15
      go_wp2_with fail
      refine (rLeap_yes y h1 h2 H.out _).mono ?_
      rintro e w' ⟨rfl, rfl⟩
      go_wp2_with fail
      go_ret
      exact ⟨rfl, Below.refl _ _⟩
    · have h0 : lp y = 0 := by omega
      have e2 : mdays y 2 = 28 := by unfold mdays; rw [if_neg (by omega), if_pos rfl, h0]; rfl
      rw [e2]
      have H := Lib.hid h0
      clear h hl e2 h0 h3 h4
      go_enter Tryd.func15, Tryd.ntmps15
      go_wp2_with fail
      refine (rLeap_no y h1 h2 H.out _).mono ?_
      rintro e w' ⟨rfl, rfl⟩
      go_wp2_with fail
      go_ret
      exact ⟨rfl, (Below.refl _ _).alloc (Nat.le_refl _) _⟩
  all_goals
    clear h3 h4 hl
    go_enter Tryd.func15, Tryd.ntmps15
    go_wp2_with fail
    go_ret
    exact ⟨rfl, (Below.refl _ _).alloc (Nat.le_refl _) _⟩
set_option maxHeartbeats 1000000 in
theorem rMonth_no (y m : Int) (h : ¬ (1 ≤ y ∧ y ≤ 9999 ∧ 1 ≤ m ∧ m ≤ 12)) (w : World) : Calls Tryd.prog 15 #[.int .i64 y, .int .i64 m] w fun e w' => e = .returned (.int .i64 0) ∧ w = w' := by
  by_cases a : y < 1
  · clear h
    go_enter Tryd.func15, Tryd.ntmps15
    go_wp2
    go_ret
    exact ⟨rfl, rfl⟩
  · by_cases b : 9999 < y
    · clear h
      go_enter Tryd.func15, Tryd.ntmps15
      go_wp2
      go_ret
      exact ⟨rfl, rfl⟩
    · by_cases c : m < 1
      · clear h
        go_enter Tryd.func15, Tryd.ntmps15
        go_wp2
        go_ret
        exact ⟨rfl, rfl⟩
      · have d : 12 < m := by omega
        clear h
        go_enter Tryd.func15, Tryd.ntmps15
        go_wp2
        go_ret
        exact ⟨rfl, rfl⟩

set_option maxHeartbeats 1000000 in
theorem rDays_yes (y m d : Int) (h : Date y m d) (w : World) : Calls Tryd.prog 20 #[.int .i64 y, .int .i64 m, .int .i64 d] w fun e w' => e = .returned (.tuple #[.int .i64 (dnum y m d), .bool true]) ∧ Below w.heap.size w w' := by
  have y1 := h.y1
  have y2 := h.y2
  have m1 := h.m1
  have m2 := h.m2
  have d1 := h.d1
  have d2 := h.d2
  have hb : 0 ≤ 365 * (y - 1) + (y - 1) / 4 - (y - 1) / 100 + (y - 1) / 400 ∧ 365 * (y - 1) + (y - 1) / 4 - (y - 1) / 100 + (y - 1) / 400 ≤ 3652059 := bef_bd y h.y1 (by omega)
  have hm := mdays_bd y m
  clear h
  go_enter Tryd.func20, Tryd.ntmps20
  go_wp2_with fail
  refine (rMonth_yes _ _ y1 y2 m1 m2 _).mono ?_
  rintro e w1 ⟨rfl, hb1⟩
  have HB1 := Lib.hid hb1
  clear hb1
  go_wp2_with fail
  go_loopw [6, 9] (fun s i wx => ∃ k : Int, 1 ≤ k ∧ k ≤ m ∧ i = .int .i64 k ∧ s = .int .i64 (365 * (y - 1) + (y - 1) / 4 - (y - 1) / 100 + (y - 1) / 400 + cum y k) ∧ Hid (Below w.heap.size w wx)) (fun _ i _ => (m - intOf i).toNat)
  case atStart => exact ⟨1, by omega, m1, rfl, by rw [cum_one, Int.add_zero], HB1⟩
  case round =>
    obtain ⟨k, k1, k2, rfl, rfl, HB⟩ := hrel
    have hc := cum_bd y k
    by_cases hk : k < m
    · have hmk := mdays_bd y k
      have HC := Lib.hid (cum_succ y k k1 (by omega))
      go_wp2_with fail
      refine (rMonth_yes _ _ y1 y2 k1 (by omega) _).mono ?_
      rintro e w2 ⟨rfl, hb2⟩
      have HB2 := Lib.hid (HB.out.trans (hb2.mono HB.out.size))
      clear hb2
      go_wp2_with fail
      go_roundw
      case rel => exact ⟨k + 1, by omega, by omega, rfl, by rw [HC.out]; go_num, HB2⟩
      case measure => simp [intOf]; omega
    · obtain rfl : m = k := by omega
      go_wp2_with fail
      go_ret2
      exact ⟨ret2_int (by unfold dnum bef; omega), HB.out⟩
set_option maxHeartbeats 1000000 in
theorem rDays_no (y m d : Int) (h : ¬ Date y m d) (w : World) : Calls Tryd.prog 20 #[.int .i64 y, .int .i64 m, .int .i64 d] w fun e w' => e = .returned (.tuple #[.int .i64 0, .bool false]) ∧ Below w.heap.size w w' := by
  by_cases hd1 : d < 1
  · clear h
    go_enter Tryd.func20, Tryd.ntmps20
    go_wp2_with fail
    go_ret2
    exact ⟨rfl, Below.refl _ _⟩
  · by_cases hm : 1 ≤ y ∧ y ≤ 9999 ∧ 1 ≤ m ∧ m ≤ 12
    · have hd : mdays y m < d := by
        rcases Int.lt_or_le (mdays y m) d with c | c
        · exact c
        · exact absurd ⟨hm.1, hm.2.1, hm.2.2.1, hm.2.2.2, by omega, c⟩ h
      have HM := Lib.hid hm
      clear h hm
      go_enter Tryd.func20, Tryd.ntmps20
      go_wp2_with fail
      refine (rMonth_yes _ _ HM.out.1 HM.out.2.1 HM.out.2.2.1 HM.out.2.2.2 _).mono ?_
      rintro e w1 ⟨rfl, hb1⟩
      have HB1 := Lib.hid hb1
      clear hb1
      go_wp2_with fail
      go_ret2
      exact ⟨rfl, HB1.out⟩
    · have HM := Lib.hid hm
      have hd : 0 < d := by omega
      clear h hm
      go_enter Tryd.func20, Tryd.ntmps20
      go_wp2_with fail
      refine (rMonth_no _ _ HM.out _).mono ?_
      rintro e w1 ⟨rfl, rfl⟩
      go_wp2_with fail
      go_ret2
      exact ⟨rfl, Below.refl _ _⟩

/-- What the reference's Civil returns. -/
def RCivPost (n : Int) (w : World) (e : Ending) (w' : World) : Prop := ∃ y m d, Date y m d ∧ dnum y m d = n ∧ e = .returned (.tuple #[.int .i64 y, .int .i64 m, .int .i64 d]) ∧ Below w.heap.size w w'
theorem jan1 {y : Int} (h1 : 1 ≤ y) (h2 : y ≤ 9999) : Date y 1 1 := ⟨h1, h2, by omega, by omega, by omega, by have := mdays_bd y 1; omega⟩
theorem jan1_num (y : Int) : dnum y 1 1 = bef y - 719162 := by unfold dnum; rw [cum_one]; omega
set_option maxHeartbeats 2000000 in
theorem rCivil_yes (n : Int) (h1 : -719162 ≤ n) (h2 : n ≤ 2932896) (w : World) : Calls Tryd.prog 27 #[.int .i64 n] w (RCivPost n w) := by
  have HG := Lib.hid (bef_guess_lo (n + 719162) (by omega))
  go_enter Tryd.func27, Tryd.ntmps27
  go_wp2_with fail
  go_loopw [2] (fun t wx => ∃ y : Int, 1 ≤ y ∧ y ≤ 9999 ∧ Hid (bef y ≤ n + 719162) ∧ t = .int .i64 y ∧ Hid (Below w.heap.size w wx)) (fun t _ => (9999 - intOf t).toNat)
  case atStart => exact ⟨(n + 719162) / 366 + 1, by omega, by omega, HG, rfl, Lib.hid (Below.refl _ _)⟩
  case round =>
    obtain ⟨y, y1, y2, HY, rfl, HB⟩ := hrel
    have hb := bef_bd y y1 (by omega)
    by_cases hc : y < 9999 ∧ bef (y + 1) ≤ n + 719162
    · obtain ⟨y3, hn⟩ := hc
      have HJ := Lib.hid (jan1_num (y + 1))
      have HN := Lib.hid hn
      have hgt : dnum (y + 1) 1 1 ≤ n := by have := HJ.out; omega
      clear hn
      go_wp2_with fail
      refine (rDays_yes _ _ _ (jan1 (by omega) (by omega)) _).mono ?_
      rintro e w1 ⟨rfl, hb1⟩
      have HB1 := Lib.hid (HB.out.trans (hb1.mono HB.out.size))
      clear hb1
      go_wp2_with fail
      go_roundw
      case rel => exact ⟨y + 1, by omega, by omega, HN, rfl, HB1⟩
      case measure => simp [intOf]; omega
    · have hnb : bef y ≤ n + 719162 := HY.out
      have hnu : n + 719162 < bef y + 366 := by
        have := bef_succ y
        have := lp_01 y
        rcases Int.lt_or_le y 9999 with c | c
        · have : n + 719162 < bef (y + 1) := by
            rcases Int.lt_or_le (n + 719162) (bef (y + 1)) with d | d
            · exact d
            · exact absurd ⟨c, d⟩ hc
          omega
        · obtain rfl : y = 9999 := by omega
          have h5 : bef (9999 + 1) = 3652059 := bef_max
          omega
      have HZ : Hid (n + 719162 < bef (y + 1)) := Lib.hid (by
        rcases Int.lt_or_le y 9999 with c | c
        · rcases Int.lt_or_le (n + 719162) (bef (y + 1)) with d | d
          · exact d
          · exact absurd ⟨c, d⟩ hc
        · obtain rfl : y = 9999 := by omega
          have h5 : bef (9999 + 1) = 3652059 := bef_max
          omega)
      clear hc
      by_cases y3 : y < 9999
      · have HJ := Lib.hid (jan1_num (y + 1))
        have hgt : n < dnum (y + 1) 1 1 := by have := HJ.out; have := HZ.out; omega
        go_wp2_with fail
        refine (rDays_yes _ _ _ (jan1 (by omega) (by omega)) _).mono ?_
        rintro e w1 ⟨rfl, hb1⟩
        have HB1 := Lib.hid (HB.out.trans (hb1.mono HB.out.size))
        clear hb1
        go_wp2_with fail
        refine (rDays_yes _ _ _ (jan1 y1 y2) _).mono ?_
        rw [jan1_num]
        rintro e w2 ⟨rfl, hb2⟩
        have HB2 := Lib.hid (HB1.out.trans (hb2.mono HB1.out.size))
        clear hb2
        go_wp2_with fail
        go_loopw [3, 5] (fun k s wx => ∃ m : Int, 1 ≤ m ∧ m ≤ 12 ∧ k = .int .i64 m ∧ 0 ≤ n + 719162 - bef y - cum y m ∧ s = .int .i64 (n + 719162 - bef y - cum y m) ∧ Hid (Below w.heap.size w wx)) (fun k _ _ => (12 - intOf k).toNat)
        case atStart => exact ⟨1, by omega, by omega, rfl, by rw [cum_one]; omega, by rw [cum_one]; congr 1; omega, HB2⟩
        case round =>
          obtain ⟨m, m1, m2, rfl, hr, rfl, HBm⟩ := hrel
          have hcm := cum_bd y m
          have hmd := mdays_bd y m
          have HCS := Lib.hid (cum_succ y m m1 m2)
          by_cases hm : mdays y m ≤ n + 719162 - bef y - cum y m
          · have m3 : m < 12 := by
              rcases Int.lt_or_le m 12 with c | c
              · exact c
              · obtain rfl : m = 12 := by omega
                have e := HCS.out
                rw [show (12 : Int) + 1 = 13 from rfl, cum_13] at e
                have := HZ.out
                have := bef_succ y
                omega
            go_wp2_with fail
            refine (rMonth_yes _ _ y1 y2 m1 m2 _).mono ?_
            rintro e w3 ⟨rfl, hb3⟩
            have HB3 := Lib.hid (HBm.out.trans (hb3.mono HBm.out.size))
            clear hb3
            go_wp2_with fail
            refine (rMonth_yes _ _ y1 y2 m1 m2 _).mono ?_
            rintro e w4 ⟨rfl, hb4⟩
            have HB4 := Lib.hid (HB3.out.trans (hb4.mono HB3.out.size))
            clear hb4
            go_wp2_with fail
            go_roundw
            case rel => exact ⟨m + 1, by omega, by omega, rfl, by rw [HCS.out]; omega, by rw [HCS.out]; go_num, HB4⟩
            case measure => simp [intOf]; omega
          · have hm' : n + 719162 - bef y - cum y m < mdays y m := by omega
            have HF := Lib.hid (civ_fin y1 y2 m1 m2 hr hm')
            go_wp2_with fail
            refine (rMonth_yes _ _ y1 y2 m1 m2 _).mono ?_
            rintro e w3 ⟨rfl, hb3⟩
            have HB3 := Lib.hid (HBm.out.trans (hb3.mono HBm.out.size))
            clear hb3
            go_wp2_with fail
            go_ret3
            exact ⟨_, _, _, HF.out.1, HF.out.2, rfl, HB3.out⟩
      · go_wp2_with fail
        refine (rDays_yes _ _ _ (jan1 y1 y2) _).mono ?_
        rw [jan1_num]
        rintro e w2 ⟨rfl, hb2⟩
        have HB2 := Lib.hid (HB.out.trans (hb2.mono HB.out.size))
        clear hb2
        go_wp2_with fail
        go_loopw [3, 5] (fun k s wx => ∃ m : Int, 1 ≤ m ∧ m ≤ 12 ∧ k = .int .i64 m ∧ 0 ≤ n + 719162 - bef y - cum y m ∧ s = .int .i64 (n + 719162 - bef y - cum y m) ∧ Hid (Below w.heap.size w wx)) (fun k _ _ => (12 - intOf k).toNat)
        case atStart => exact ⟨1, by omega, by omega, rfl, by rw [cum_one]; omega, by rw [cum_one]; congr 1; omega, HB2⟩
        case round =>
          obtain ⟨m, m1, m2, rfl, hr, rfl, HBm⟩ := hrel
          have hcm := cum_bd y m
          have hmd := mdays_bd y m
          have HCS := Lib.hid (cum_succ y m m1 m2)
          by_cases hm : mdays y m ≤ n + 719162 - bef y - cum y m
          · have m3 : m < 12 := by
              rcases Int.lt_or_le m 12 with c | c
              · exact c
              · obtain rfl : m = 12 := by omega
                have e := HCS.out
                rw [show (12 : Int) + 1 = 13 from rfl, cum_13] at e
                have := HZ.out
                have := bef_succ y
                omega
            go_wp2_with fail
            refine (rMonth_yes _ _ y1 y2 m1 m2 _).mono ?_
            rintro e w3 ⟨rfl, hb3⟩
            have HB3 := Lib.hid (HBm.out.trans (hb3.mono HBm.out.size))
            clear hb3
            go_wp2_with fail
            refine (rMonth_yes _ _ y1 y2 m1 m2 _).mono ?_
            rintro e w4 ⟨rfl, hb4⟩
            have HB4 := Lib.hid (HB3.out.trans (hb4.mono HB3.out.size))
            clear hb4
            go_wp2_with fail
            go_roundw
            case rel => exact ⟨m + 1, by omega, by omega, rfl, by rw [HCS.out]; omega, by rw [HCS.out]; go_num, HB4⟩
            case measure => simp [intOf]; omega
          · have hm' : n + 719162 - bef y - cum y m < mdays y m := by omega
            have HF := Lib.hid (civ_fin y1 y2 m1 m2 hr hm')
            go_wp2_with fail
            refine (rMonth_yes _ _ y1 y2 m1 m2 _).mono ?_
            rintro e w3 ⟨rfl, hb3⟩
            have HB3 := Lib.hid (HBm.out.trans (hb3.mono HBm.out.size))
            clear hb3
            go_wp2_with fail
            go_ret3
            exact ⟨_, _, _, HF.out.1, HF.out.2, rfl, HB3.out⟩

set_option maxHeartbeats 400000 in
theorem rWeekday_any (n : Int) (h1 : -719162 ≤ n) (h2 : n ≤ 2932896) (w : World) : Calls Tryd.prog 30 #[.int .i64 n] w fun e w' => e = .returned (.int .i64 ((n + 719162) % 7 + 1)) ∧ w = w' := by
  go_enter Tryd.func30, Tryd.ntmps30
  go_wp2
  go_ret
  exact ⟨rfl, rfl⟩
/-- What the reference's Week returns. -/
def RWeekPost (n : Int) (w : World) (e : Ending) (w' : World) : Prop := ∃ y m d, Date y m d ∧ dnum y m d = thu n ∧ e = .returned (.tuple #[.int .i64 y, .int .i64 ((thu n + 719162 - bef y) / 7 + 1)]) ∧ Below w.heap.size w w'
set_option maxHeartbeats 1000000 in
theorem rWeek_yes (n : Int) (h1 : -719162 ≤ n) (h2 : n ≤ 2932896) (w : World) : Calls Tryd.prog 29 #[.int .i64 n] w (RWeekPost n w) := by
  have ht := thu_bd n h1 h2
  have ht1 := ht.1
  have ht2 := ht.2
  clear ht
  have HM : Hid (n - ((n + 719162) % 7 + 1) + 4 = thu n) := Lib.hid rfl
  go_enter Tryd.func29, Tryd.ntmps29
  go_wp2_with fail
  refine (rWeekday_any n h1 h2 _).mono ?_
  rintro e w' ⟨rfl, rfl⟩
  go_wp2_with fail
  rw [HM.out]
  generalize HT : thu n = t at ht1 ht2
  have HT' := Lib.hid HT
  clear HT HM
  refine (rIn_yes t ht1 ht2 _).mono ?_
  rintro e w' ⟨rfl, rfl⟩
  go_wp2_with fail
  refine (rCivil_yes t ht1 ht2 _).mono ?_
  rintro e w1 ⟨y, m, d, hd, hn, rfl, hb1⟩
  have y1 := hd.y1
  have y2 := hd.y2
  have hb := bef_bd y y1 (by omega)
  have hy := hd.in_year.1
  rw [hn] at hy
  have HD := Lib.hid hd
  have HN := Lib.hid hn
  have HB1 := Lib.hid hb1
  clear hd hn hb1
  go_wp2_with fail
  refine (rDays_yes _ _ _ (jan1 y1 y2) _).mono ?_
  rw [jan1_num]
  rintro e w2 ⟨rfl, hb2⟩
  have HB2 := Lib.hid (HB1.out.trans (hb2.mono HB1.out.size))
  clear hb2
  go_wp2_with fail
  go_ret2
  exact ⟨y, m, d, HD.out, by rw [HN.out, HT'.out], ret2_snd (by rw [HT'.out, show t - (bef y - 719162) = t + 719162 - bef y by omega]), HB2.out⟩

end Go.Proofs.YthkkjfofpoifiaaDoor
