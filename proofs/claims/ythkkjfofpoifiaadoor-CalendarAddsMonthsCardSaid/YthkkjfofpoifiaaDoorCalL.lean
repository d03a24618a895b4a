/- Calendar: the walks of the laws CalendarCivil, CalendarAddsMonths, CalendarSuccessors. -/
import Derived.Test.YthkkjfofpoifiaaDoorCalK
namespace Go.Proofs.YthkkjfofpoifiaaDoor
open Go.RowKit

set_option maxRecDepth 100000 in
set_option maxHeartbeats 2000000 in
theorem lawCivil (n : Int) (w : World) (ht : CalTab w) : Calls Tryd.prog 8 #[.int .i64 n] w fun e w' => e = .returned (.bool true) ∧ Below w.heap.size w w' := by
  have HT := Lib.hid ht
  clear ht
  by_cases h : -719162 ≤ n ∧ n ≤ 2932896
  · obtain ⟨n1, n2⟩ := h
    go_enter Tryd.func8, Tryd.ntmps8
    go_wp2_with fail
    refine (known_any _ HT.out).mono ?_
    rintro e w1 ⟨rfl, hb1⟩
    have HB1 := Lib.hid hb1
    clear hb1
    go_wp2_with fail
    refine (Civil_yes n n1 n2 _).mono ?_
    rintro e w' ⟨y, m, d, hd, hn, rfl, rfl⟩
    have HD := Lib.hid hd
    have HN := Lib.hid hn
    clear hd hn
    go_wp2_with fail
    refine (Weekday_yes n n1 n2 _).mono ?_
    rintro e w' ⟨rfl, rfl⟩
    go_wp2_with fail
    refine (Week_yes n n1 n2 _).mono ?_
    rintro e w' ⟨y2, m2, d2, hd, hn, rfl, rfl⟩
    have HD2 := Lib.hid hd
    have HN2 := Lib.hid hn
    clear hd hn
    go_wp2_with fail
    refine (rIn_yes n n1 n2 _).mono ?_
    rintro e w' ⟨rfl, rfl⟩
    go_wp2_with fail
    refine (rCivil_yes n n1 n2 _).mono ?_
    rintro e w2 ⟨y3, m3, d3, hd, hn, rfl, hb2⟩
    obtain ⟨rfl, rfl, rfl⟩ := hd.inj HD.out (hn.trans HN.out.symm)
    have HB2 := Lib.hid (below_trans HB1.out hb2)
    clear hd hn hb2
    go_wp2_with fail
    refine (rWeek_yes n n1 n2 _).mono ?_
    rintro e w3 ⟨y4, m4, d4, hd, hn, rfl, hb3⟩
    obtain ⟨rfl, rfl, rfl⟩ := hd.inj HD2.out (hn.trans HN2.out.symm)
    have HB3 := Lib.hid (below_trans HB2.out hb3)
    clear hd hn hb3
    go_wp2_with fail
    refine (rWeekday_any n n1 n2 _).mono ?_
    rintro e w' ⟨rfl, rfl⟩
    go_wp2_with fail
    go_ret
    exact ⟨rfl, HB3.out⟩
  · have HN := Lib.hid h
    clear h
    go_enter Tryd.func8, Tryd.ntmps8
    go_wp2_with fail
    refine (known_any _ HT.out).mono ?_
    rintro e w1 ⟨rfl, hb1⟩
    have HB1 := Lib.hid hb1
    clear hb1
    go_wp2_with fail
    refine (Civil_no n HN.out _).mono ?_
    rintro e w' ⟨rfl, rfl⟩
    go_wp2_with fail
    refine (Weekday_no n HN.out _).mono ?_
    rintro e w' ⟨rfl, rfl⟩
    go_wp2_with fail
    refine (Week_no n HN.out _).mono ?_
    rintro e w' ⟨rfl, rfl⟩
    go_wp2_with fail
    refine (rIn_no n HN.out _).mono ?_
    rintro e w' ⟨rfl, rfl⟩
    go_wp2_with fail
    go_ret
    exact ⟨rfl, HB1.out⟩

theorem addM_out {y m d k : Int} (h : k < -119988 ∨ 119988 < k ∨ 12 * y + m - 1 + k < 12 ∨ 119999 < 12 * y + m - 1 + k) : addM y m d k = (0, 2) := by
  unfold addM
  by_cases a : k < -119988 ∨ 119988 < k
  · rw [if_pos a]
  · rw [if_neg a, if_pos (by omega)]

set_option maxRecDepth 100000 in
set_option maxHeartbeats 4000000 in
theorem lawAdds (n k : Int) (w : World) (ht : CalTab w) : Calls Tryd.prog 7 #[.int .i64 n, .int .i64 k] w fun e w' => e = .returned (.bool true) ∧ Below w.heap.size w w' := by
  have HT := Lib.hid ht
  clear ht
  by_cases h : -719162 ≤ n ∧ n ≤ 2932896
  · obtain ⟨n1, n2⟩ := h
    by_cases hk : k < -200000 ∨ 200000 < k
    · by_cases k1 : k < -200000
      all_goals
        first
          | have k2 : 200000 < k := by omega
          | skip
        have HK := Lib.hid hk
        clear hk
        go_enter Tryd.func7, Tryd.ntmps7
        go_wp2_with fail
        refine (known_any _ HT.out).mono ?_
        rintro e w1 ⟨rfl, hb1⟩
        have HB1 := Lib.hid hb1
        clear hb1
        go_wp2_with fail
        refine (Add_yes n k n1 n2 _).mono ?_
        rintro e w' ⟨y, m, d, hd, hn, he, rfl⟩
        rw [addM_out (by have := HK.out; omega)] at he
        subst he
        clear hd hn
        go_wp2_with fail
        refine (rIn_yes n n1 n2 _).mono ?_
        rintro e w' ⟨rfl, rfl⟩
        go_wp2_with fail
        go_ret
        exact ⟨rfl, HB1.out⟩
    · have k1 : -200000 ≤ k := by omega
      have k2 : k ≤ 200000 := by omega
      clear hk
      go_enter Tryd.func7, Tryd.ntmps7
      go_wp2_with fail
      refine (known_any _ HT.out).mono ?_
      rintro e w1 ⟨rfl, hb1⟩
      have HB1 := Lib.hid hb1
      clear hb1
      go_wp2_with fail
      refine (Add_yes n k n1 n2 _).mono ?_
      rintro e w' ⟨y, m, d, hd, hn, he, rfl⟩
      have HD := Lib.hid hd
      have HN := Lib.hid hn
      have y1 := hd.y1
      have y2 := hd.y2
      have m1 := hd.m1
      have m2 := hd.m2
      have d1 := hd.d1
      by_cases ha : 12 * y + m - 1 + k < 12
      · rw [addM_out (by omega)] at he
        subst he
        clear hd hn
        go_wp2_with fail
        refine (rIn_yes n n1 n2 _).mono ?_
        rintro e w' ⟨rfl, rfl⟩
        go_wp2_with fail
        refine (rCivil_yes n n1 n2 _).mono ?_
        rintro e w2 ⟨y3, m3, d3, hd, hn, rfl, hb2⟩
        obtain ⟨rfl, rfl, rfl⟩ := hd.inj HD.out (hn.trans HN.out.symm)
        have HB2 := Lib.hid (below_trans HB1.out hb2)
        clear hd hn hb2
        go_wp2_with fail
        go_ret
        exact ⟨rfl, HB2.out⟩
      · by_cases hb : 119999 < 12 * y + m - 1 + k
        · rw [addM_out (by omega)] at he
          subst he
          have hy : 9999 < (12 * y + m - 1 + k) / 12 := by omega
          clear hd hn
          go_wp2_with fail
          refine (rIn_yes n n1 n2 _).mono ?_
          rintro e w' ⟨rfl, rfl⟩
          go_wp2_with fail
          refine (rCivil_yes n n1 n2 _).mono ?_
          rintro e w2 ⟨y3, m3, d3, hd, hn, rfl, hb2⟩
          obtain ⟨rfl, rfl, rfl⟩ := hd.inj HD.out (hn.trans HN.out.symm)
          have HB2 := Lib.hid (below_trans HB1.out hb2)
          clear hd hn hb2
          go_wp2_with fail
          go_ret
          exact ⟨rfl, HB2.out⟩
        · have hA : addM y m d k = (dnum ((12 * y + m - 1 + k) / 12) ((12 * y + m - 1 + k) % 12 + 1) (min d (mdays ((12 * y + m - 1 + k) / 12) ((12 * y + m - 1 + k) % 12 + 1))), 0) := by
            unfold addM
            rw [if_neg (by omega), if_neg (by omega)]
          rw [hA] at he
          clear hA
          have q1 : 1 ≤ (12 * y + m - 1 + k) / 12 := by omega
          have q2 : (12 * y + m - 1 + k) / 12 ≤ 9999 := by omega
          have q3 : 1 ≤ (12 * y + m - 1 + k) % 12 + 1 := by omega
          have q4 : (12 * y + m - 1 + k) % 12 + 1 ≤ 12 := by omega
          clear hd hn
          by_cases hm : d ≤ mdays ((12 * y + m - 1 + k) / 12) ((12 * y + m - 1 + k) % 12 + 1)
          · rw [Int.min_eq_left hm] at he
            subst he
            have HM := Lib.hid hm
            go_wp2_with fail
            refine (rIn_yes n n1 n2 _).mono ?_
            rintro e w' ⟨rfl, rfl⟩
            go_wp2_with fail
            refine (rCivil_yes n n1 n2 _).mono ?_
            rintro e w2 ⟨y3, m3, d3, hd, hn, rfl, hb2⟩
            obtain ⟨rfl, rfl, rfl⟩ := hd.inj HD.out (hn.trans HN.out.symm)
            have HB2 := Lib.hid (below_trans HB1.out hb2)
            clear hd hn hb2
            go_wp2_with fail
            refine (rMonth_yes _ _ q1 q2 q3 q4 _).mono ?_
            rintro e w3 ⟨rfl, hb3⟩
            have HB3 := Lib.hid (below_trans HB2.out hb3)
            clear hb3
            go_wp2_with fail
            rw [Int.min_eq_left HM.out]
            refine (rDays_yes _ _ _ ⟨q1, q2, q3, q4, d1, HM.out⟩ _).mono ?_
            rintro e w4 ⟨rfl, hb4⟩
            have HB4 := Lib.hid (below_trans HB3.out hb4)
            clear hb4
            go_wp2_with fail
            go_ret
            exact ⟨rfl, HB4.out⟩
          · have hm2 : mdays ((12 * y + m - 1 + k) / 12) ((12 * y + m - 1 + k) % 12 + 1) ≤ d := by omega
            rw [Int.min_eq_right hm2] at he
            subst he
            have hmd := mdays_bd ((12 * y + m - 1 + k) / 12) ((12 * y + m - 1 + k) % 12 + 1)
            go_wp2_with fail
            refine (rIn_yes n n1 n2 _).mono ?_
            rintro e w' ⟨rfl, rfl⟩
            go_wp2_with fail
            refine (rCivil_yes n n1 n2 _).mono ?_
            rintro e w2 ⟨y3, m3, d3, hd, hn, rfl, hb2⟩
            obtain ⟨rfl, rfl, rfl⟩ := hd.inj HD.out (hn.trans HN.out.symm)
            have HB2 := Lib.hid (below_trans HB1.out hb2)
            clear hd hn hb2
            go_wp2_with fail
            refine (rMonth_yes _ _ q1 q2 q3 q4 _).mono ?_
            rintro e w3 ⟨rfl, hb3⟩
            have HB3 := Lib.hid (below_trans HB2.out hb3)
            clear hb3
            go_wp2_with fail
            rw [Int.min_eq_right hm2]
            refine (rDays_yes _ _ _ ⟨q1, q2, q3, q4, by omega, Int.le_refl _⟩ _).mono ?_
            rintro e w4 ⟨rfl, hb4⟩
            have HB4 := Lib.hid (below_trans HB3.out hb4)
            clear hb4
            go_wp2_with fail
            go_ret
            exact ⟨rfl, HB4.out⟩
  · have HN := Lib.hid h
    clear h
    go_enter Tryd.func7, Tryd.ntmps7
    go_wp2_with fail
    refine (known_any _ HT.out).mono ?_
    rintro e w1 ⟨rfl, hb1⟩
    have HB1 := Lib.hid hb1
    clear hb1
    go_wp2_with fail
    refine (Add_no n k HN.out _).mono ?_
    rintro e w' ⟨rfl, rfl⟩
    go_wp2_with fail
    refine (rIn_no n HN.out _).mono ?_
    rintro e w' ⟨rfl, rfl⟩
    go_wp2_with fail
    go_ret
    exact ⟨rfl, HB1.out⟩

end Go.Proofs.YthkkjfofpoifiaaDoor
