/- Calendar: the contract of known; the laws CalendarMonths, CalendarJoins, CalendarDays. -/
import Derived.Test.YthkkjfofpoifiaaDoorCalU
namespace Go.Proofs.YthkkjfofpoifiaaDoor
open Go.RowKit

theorem date_known : Date 2000 2 29 := ⟨by omega, by omega, by omega, by omega, by omega, by decide⟩
theorem dnum_known : dnum 2000 2 29 = 11016 := by decide
theorem dateL_known : dateL 2000 2 29 = [50, 48, 48, 48, 45, 48, 50, 45, 50, 57] := by decide +kernel
theorem spanL_known : spanL 93784005 = [49, 100, 50, 104, 51, 109, 52, 115, 53, 109, 115] := by decide +kernel

set_option maxRecDepth 100000 in
set_option maxHeartbeats 1000000 in
theorem known_any (w : World) (ht : CalTab w) : Calls Tryd.prog 16 #[] w fun e w' => e = .returned (.bool true) ∧ Below w.heap.size w w' := by
  have HT := Lib.hid ht
  clear ht
  go_enter Tryd.func16, Tryd.ntmps16
  go_wp2_with fail
  refine (Days_yes 2000 2 29 date_known _).mono ?_
  rw [dnum_known]
  rintro e w' ⟨rfl, rfl⟩
  go_wp2_with fail
  refine (Text_yes 11016 (by omega) (by omega) _ HT.out).mono ?_
  rintro e w1 ⟨y, m, d, hd, hn, rfl, hb1⟩
  obtain ⟨e1, e2, e3⟩ := hd.inj date_known (hn.trans dnum_known.symm)
  obtain rfl : y = 2000 := by omega
  obtain rfl : m = 2 := by omega
  obtain rfl : d = 29 := by omega
  rw [dateL_known]
  have HB1 := Lib.hid hb1
  have HT1 := Lib.hid (HT.out.below hb1)
  clear hb1 hd hn e1 e2 e3
  go_wp2_with fail
  refine (SpanText_yes 93784005 (by omega) _ HT1.out).mono ?_
  rw [spanL_known]
  rintro e w2 ⟨rfl, hb2⟩
  have HB2 := Lib.hid (below_trans HB1.out hb2)
  clear hb2
  go_wp2_with fail
  go_ret
  exact ⟨rfl, HB2.out⟩

set_option maxRecDepth 100000 in
set_option maxHeartbeats 1000000 in
theorem lawJoins (n r : Int) (w : World) (ht : CalTab w) : Calls Tryd.prog 5 #[.int .i64 n, .int .i64 r] w fun e w' => e = .returned (.bool true) ∧ Below w.heap.size w w' := by
  have HT := Lib.hid ht
  clear ht
  by_cases hn : -719162 ≤ n ∧ n ≤ 2932896
  · by_cases hr : 0 ≤ r ∧ r ≤ 86399999
    · obtain ⟨n1, n2⟩ := hn
      obtain ⟨r1, r2⟩ := hr
      have e1 : (n * 86400000 + r == 86400000 * n + r) = true := by simp; omega
      have e2 : n * 86400000 + r = 86400000 * n + r := by omega
      go_enter Tryd.func5, Tryd.ntmps5
      go_wp2_with fail
      refine (Join_yes n r n1 n2 r1 r2 _).mono ?_
      rw [e2]
      rintro e w' ⟨rfl, rfl⟩
      clear e1 e2
      go_wp2_with fail
      refine (rIn_yes n n1 n2 _).mono ?_
      rintro e w' ⟨rfl, rfl⟩
      go_wp2_with fail
      refine (known_any _ HT.out).mono ?_
      rintro e w1 ⟨rfl, hb1⟩
      have HB1 := Lib.hid hb1
      clear hb1
      go_wp2_with fail
      go_ret
      exact ⟨rfl, HB1.out⟩
    · have HN := Lib.hid hn
      by_cases r0 : r < 0
      · clear hn hr
        go_enter Tryd.func5, Tryd.ntmps5
        go_wp2_with fail
        refine (Join_no n r (by omega) _).mono ?_
        rintro e w' ⟨rfl, rfl⟩
        go_wp2_with fail
        refine (rIn_yes n HN.out.1 HN.out.2 _).mono ?_
        rintro e w' ⟨rfl, rfl⟩
        go_wp2_with fail
        refine (known_any _ HT.out).mono ?_
        rintro e w1 ⟨rfl, hb1⟩
        have HB1 := Lib.hid hb1
        clear hb1
        go_wp2_with fail
        go_ret
        exact ⟨rfl, HB1.out⟩
      · have r1 : 86400000 ≤ r := by omega
        clear hn hr
        go_enter Tryd.func5, Tryd.ntmps5
        go_wp2_with fail
        refine (Join_no n r (by omega) _).mono ?_
        rintro e w' ⟨rfl, rfl⟩
        go_wp2_with fail
        refine (rIn_yes n HN.out.1 HN.out.2 _).mono ?_
        rintro e w' ⟨rfl, rfl⟩
        go_wp2_with fail
        refine (known_any _ HT.out).mono ?_
        rintro e w1 ⟨rfl, hb1⟩
        have HB1 := Lib.hid hb1
        clear hb1
        go_wp2_with fail
        go_ret
        exact ⟨rfl, HB1.out⟩
  · have HN := Lib.hid hn
    clear hn
    go_enter Tryd.func5, Tryd.ntmps5
    go_wp2_with fail
    refine (Join_no n r (by have := HN.out; omega) _).mono ?_
    rintro e w' ⟨rfl, rfl⟩
    go_wp2_with fail
    refine (rIn_no n HN.out _).mono ?_
    rintro e w' ⟨rfl, rfl⟩
    go_wp2_with fail
    refine (known_any _ HT.out).mono ?_
    rintro e w1 ⟨rfl, hb1⟩
    have HB1 := Lib.hid hb1
    clear hb1
    go_wp2_with fail
    go_ret
    exact ⟨rfl, HB1.out⟩

set_option maxRecDepth 100000 in
set_option maxHeartbeats 1000000 in
theorem lawMonths (y m : Int) (w : World) (ht : CalTab w) : Calls Tryd.prog 3 #[.int .i64 y, .int .i64 m] w fun e w' => e = .returned (.bool true) ∧ Below w.heap.size w w' := by
  have HT := Lib.hid ht
  clear ht
  by_cases h : 1 ≤ y ∧ y ≤ 9999 ∧ 1 ≤ m ∧ m ≤ 12
  · obtain ⟨y1, y2, m1, m2⟩ := h
    have hm := mdays_bd y m
    have hm0 : 0 < mdays y m := by omega
    go_enter Tryd.func3, Tryd.ntmps3
    go_wp2_with fail
    refine (MonthDays_yes _ _ y1 y2 m1 m2 _).mono ?_
    rintro e w' ⟨rfl, rfl⟩
    go_wp2_with fail
    refine (rMonth_yes _ _ y1 y2 m1 m2 _).mono ?_
    rintro e w1 ⟨rfl, hb1⟩
    have HB1 := Lib.hid hb1
    have HT1 := Lib.hid (HT.out.below hb1)
    clear hb1
    go_wp2_with fail
    refine (known_any _ HT1.out).mono ?_
    rintro e w2 ⟨rfl, hb2⟩
    have HB2 := Lib.hid (below_trans HB1.out hb2)
    clear hb2
    go_wp2_with fail
    refine (leap_any y _).mono ?_
    rintro e w' ⟨rfl, rfl⟩
    go_wp2_with fail
    refine (rLeap_any y _).mono ?_
    rintro e w' ⟨rfl, rfl⟩
    go_wp2_with fail
    go_ret
    exact ⟨rfl, HB2.out⟩
  · have HM := Lib.hid h
    clear h
    go_enter Tryd.func3, Tryd.ntmps3
    go_wp2_with fail
    refine (MonthDays_no _ _ HM.out _).mono ?_
    rintro e w' ⟨rfl, rfl⟩
    go_wp2_with fail
    refine (rMonth_no _ _ HM.out _).mono ?_
    rintro e w1 ⟨rfl, rfl⟩
    go_wp2_with fail
    refine (known_any _ HT.out).mono ?_
    rintro e w2 ⟨rfl, hb2⟩
    have HB2 := Lib.hid hb2
    clear hb2
    go_wp2_with fail
    refine (leap_any y _).mono ?_
    rintro e w' ⟨rfl, rfl⟩
    go_wp2_with fail
    refine (rLeap_any y _).mono ?_
    rintro e w' ⟨rfl, rfl⟩
    go_wp2_with fail
    go_ret
    exact ⟨rfl, HB2.out⟩

set_option maxRecDepth 100000 in
set_option maxHeartbeats 1000000 in
theorem lawDays (y m d : Int) (w : World) (ht : CalTab w) : Calls Tryd.prog 4 #[.int .i64 y, .int .i64 m, .int .i64 d] w fun e w' => e = .returned (.bool true) ∧ Below w.heap.size w w' := by
  have HT := Lib.hid ht
  clear ht
  by_cases h : Date y m d
  · have HD := Lib.hid h
    have hr := h.range
    have hr1 := hr.1
    have hr2 := hr.2
    clear h hr
    go_enter Tryd.func4, Tryd.ntmps4
    go_wp2_with fail
    refine (known_any _ HT.out).mono ?_
    rintro e w1 ⟨rfl, hb1⟩
    have HB1 := Lib.hid hb1
    clear hb1
    go_wp2_with fail
    refine (Days_yes _ _ _ HD.out _).mono ?_
    rintro e w' ⟨rfl, rfl⟩
    go_wp2_with fail
    refine (rDays_yes _ _ _ HD.out _).mono ?_
    rintro e w2 ⟨rfl, hb2⟩
    have HB2 := Lib.hid (below_trans HB1.out hb2)
    clear hb2
    go_wp2_with fail
    refine (Civil_yes _ hr1 hr2 _).mono ?_
    rintro e w' ⟨y', m', d', hd, hn, rfl, rfl⟩
    obtain ⟨rfl, rfl, rfl⟩ := hd.inj HD.out hn
    clear hd hn
    go_wp2_with fail
    go_ret
    exact ⟨rfl, HB2.out⟩
  · have HD := Lib.hid h
    clear h
    go_enter Tryd.func4, Tryd.ntmps4
    go_wp2_with fail
    refine (known_any _ HT.out).mono ?_
    rintro e w1 ⟨rfl, hb1⟩
    have HB1 := Lib.hid hb1
    clear hb1
    go_wp2_with fail
    refine (Days_no _ _ _ HD.out _).mono ?_
    rintro e w' ⟨rfl, rfl⟩
    go_wp2_with fail
    refine (rDays_no _ _ _ HD.out _).mono ?_
    rintro e w2 ⟨rfl, hb2⟩
    have HB2 := Lib.hid (below_trans HB1.out hb2)
    clear hb2
    go_wp2_with fail
    go_ret
    exact ⟨rfl, HB2.out⟩

end Go.Proofs.YthkkjfofpoifiaaDoor
