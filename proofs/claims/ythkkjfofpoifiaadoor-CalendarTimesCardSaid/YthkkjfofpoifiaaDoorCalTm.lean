/- Calendar: the law CalendarTimes. -/
import Derived.Test.YthkkjfofpoifiaaDoorCalZ
namespace Go.Proofs.YthkkjfofpoifiaaDoor
open Go.RowKit

set_option maxRecDepth 100000 in
set_option maxHeartbeats 2000000 in
theorem lawTimes (n : Int) (w : World) (ht : CalTab w) : Calls Tryd.prog 11 #[.int .i64 n] w fun e w' => e = .returned (.bool true) ∧ Below w.heap.size w w' := by
  have HT := Lib.hid ht
  clear ht
  by_cases h : -62135596800000 ≤ n ∧ n ≤ 253402300799999
  · obtain ⟨D, r, hP⟩ := parts_of h
    obtain ⟨n1, n2⟩ := h
    have HP := Lib.hid hP
    have g1 : ¬ n < -62135596800000 := by omega
    have g2 : ¬ 253402300799999 < n := by omega
    clear hP
    go_enter Tryd.func11, Tryd.ntmps11
    go_wp2_with fail
    refine (known_any _ HT.out).mono ?_
    rintro e w1 ⟨rfl, hb1⟩
    have HB1 := Lib.hid hb1
    have HT1 := Lib.hid (HT.out.below hb1)
    clear hb1
    go_wp2_with fail
    refine (Split_yes HP.out _).mono ?_
    rintro e w' ⟨rfl, rfl⟩
    go_wp2_with fail
    refine (TimeText_yes HP.out _ HT1.out).mono ?_
    rintro e w2 ⟨y, m, d, hd, hn, rfl, hb2⟩
    have HB2 := Lib.hid (below_trans HB1.out hb2)
    obtain ⟨y', m', d', e1, e2, e3, hy, hm, hdd⟩ := hd.nat
    have HD := Lib.hid hd
    have HN := Lib.hid hn
    have HC : Hid (calT (timeL y m d r) = (n, 0)) := Lib.hid (by rw [calT_time hd (by omega) (by omega) (by omega) HP.out.r2, hn, HP.out.eq])
    obtain ⟨s, HS⟩ : ∃ s : ByteArray, Hid (s = ⟨(timeL y m d r).toArray⟩) := ⟨_, Lib.hid rfl⟩
    have HSD : Hid (s.data.toList = timeL y m d r) := Lib.hid (by rw [HS.out])
    have hsz : s.size ≤ 9223372036854775807 := by have := timeL_len y m d r; rw [← size_len, HSD.out]; omega
    rw [← HS.out]
    clear hb2 hd hn e1 e2 e3
    go_wp2_with fail
    refine (rSplit_yes HP.out _).mono ?_
    rintro e w' ⟨rfl, rfl⟩
    go_wp2_with fail
    refine (Join_parts HP.out _).mono ?_
    rintro e w' ⟨rfl, rfl⟩
    go_wp2_with fail
    refine (ParseTime_any s hsz _).mono ?_
    rw [HSD.out, HC.out]
    rintro e w3 ⟨rfl, hb3⟩
    have HB3 := Lib.hid (below_trans HB2.out hb3)
    clear hb3
    go_wp2_with fail
    refine (rTimeText_yes HP.out _).mono ?_
    rintro e w4 ⟨y3, m3, d3, hd, hn, rfl, hb4⟩
    obtain ⟨e1, e2, e3⟩ := hd.inj HD.out (hn.trans HN.out.symm)
    obtain rfl : y3 = y := by omega
    obtain rfl : m3 = m := by omega
    obtain rfl : d3 = d := by omega
    rw [← HS.out]
    have HB4 := Lib.hid (below_trans HB3.out hb4)
    clear hb4 hd hn e1 e2 e3
    go_wp2_with fail
    go_ret
    exact ⟨rfl, HB4.out⟩
  · have HN := Lib.hid h
    by_cases h1 : n < -62135596800000
    · clear h
      go_enter Tryd.func11, Tryd.ntmps11
      go_wp2_with fail
      refine (known_any _ HT.out).mono ?_
      rintro e w1 ⟨rfl, hb1⟩
      have HB1 := Lib.hid hb1
      clear hb1
      go_wp2_with fail
      refine (Split_no n HN.out _).mono ?_
      rintro e w' ⟨rfl, rfl⟩
      go_wp2_with fail
      refine (TimeText_no n HN.out _).mono ?_
      rintro e w' ⟨rfl, rfl⟩
      go_wp2_with fail
      go_ret
      exact ⟨rfl, HB1.out⟩
    · have h2 : 253402300799999 < n := by omega
      clear h
      go_enter Tryd.func11, Tryd.ntmps11
      go_wp2_with fail
      refine (known_any _ HT.out).mono ?_
      rintro e w1 ⟨rfl, hb1⟩
      have HB1 := Lib.hid hb1
      clear hb1
      go_wp2_with fail
      refine (Split_no n HN.out _).mono ?_
      rintro e w' ⟨rfl, rfl⟩
      go_wp2_with fail
      refine (TimeText_no n HN.out _).mono ?_
      rintro e w' ⟨rfl, rfl⟩
      go_wp2_with fail
      go_ret
      exact ⟨rfl, HB1.out⟩

end Go.Proofs.YthkkjfofpoifiaaDoor
