/- Calendar: the walk of the law CalendarSuccessors. -/
import Derived.Test.YthkkjfofpoifiaaDoorCalK
namespace Go.Proofs.YthkkjfofpoifiaaDoor
open Go.RowKit

/-- What the next day is. -/
def succOk (y m d p q r : Int) : Prop := (d < mdays y m ∧ p = y ∧ q = m ∧ r = d + 1) ∨ (d = mdays y m ∧ m < 12 ∧ p = y ∧ q = m + 1 ∧ r = 1) ∨ (d = mdays y m ∧ m = 12 ∧ p = y + 1 ∧ q = 1 ∧ r = 1)
theorem succ_ok {y m d p q r : Int} (h : Date y m d) (h' : Date p q r) (e : dnum p q r = dnum y m d + 1) : succOk y m d p q r := by
  have h2 := h.d2
  rcases Int.lt_or_le d (mdays y m) with c | c
  · obtain ⟨g, eg⟩ := h.next_day c
    obtain ⟨a, b, c'⟩ := h'.inj g (e.trans eg.symm)
    exact .inl ⟨c, a, b, c'⟩
  · have hd : d = mdays y m := by omega
    rcases Int.lt_or_le m 12 with cm | cm
    · obtain ⟨g, eg⟩ := h.next_month hd cm
      obtain ⟨a, b, c'⟩ := h'.inj g (e.trans eg.symm)
      exact .inr (.inl ⟨hd, cm, a, b, c'⟩)
    · have hm : m = 12 := by have := h.m2; omega
      have hy : y < 9999 := by
        rcases Int.lt_or_le y 9999 with cy | cy
        · exact cy
        · have := h.last hd hm (by have := h.y2; omega)
          have := h'.range
          omega
      obtain ⟨g, eg⟩ := h.next_year hd hm hy
      obtain ⟨a, b, c'⟩ := h'.inj g (e.trans eg.symm)
      exact .inr (.inr ⟨hd, hm, a, b, c'⟩)

theorem succ_less {y m d p q r : Nat} (h : succOk y m d p q r) (hp : p < 10000) (hq : q < 100) (hr : r < 100) : Op.bytesLess (⟨(dateL y m d).toArray⟩ : ByteArray).toList (⟨(dateL p q r).toArray⟩ : ByteArray).toList = true := by
  rw [ByteArray.toList_eq, ByteArray.toList_eq]
  refine less_date ?_ hp hq hr
  rcases h with ⟨_, a, b, c⟩ | ⟨_, _, a, b, c⟩ | ⟨_, _, a, b, c⟩
  · exact .inr ⟨by omega, .inr ⟨by omega, by omega⟩⟩
  · exact .inr ⟨by omega, .inl (by omega)⟩
  · exact .inl (by omega)

set_option maxRecDepth 100000 in
set_option maxHeartbeats 2000000 in
theorem lawSucc_out (n : Int) (h : n < -719162 ∨ 2932896 ≤ n) (w : World) (ht : CalTab w) : Calls Tryd.prog 6 #[.int .i64 n] w fun e w' => e = .returned (.bool true) ∧ Below w.heap.size w w' := by
  have HT := Lib.hid ht
  clear ht
  by_cases h1 : n < -719162
  all_goals
    first
      | have h2 : 2932896 ≤ n := by omega
      | skip
    clear h
    go_enter Tryd.func6, Tryd.ntmps6
    go_wp2_with fail
    refine (known_any _ HT.out).mono ?_
    rintro e w1 ⟨rfl, hb1⟩
    have HB1 := Lib.hid hb1
    have HT1 := Lib.hid (HT.out.below hb1)
    clear hb1
    go_wp2_with fail
    refine (known_any _ HT1.out).mono ?_
    rintro e w2 ⟨rfl, hb2⟩
    have HB2 := Lib.hid (below_trans HB1.out hb2)
    clear hb2
    go_wp2_with fail
    go_ret
    exact ⟨rfl, HB2.out⟩

set_option maxRecDepth 100000 in
set_option maxHeartbeats 4000000 in
theorem lawSucc_in (n : Int) (n1 : -719162 ≤ n) (n2 : n < 2932896) (w : World) (ht : CalTab w) : Calls Tryd.prog 6 #[.int .i64 n] w fun e w' => e = .returned (.bool true) ∧ Below w.heap.size w w' := by
  have HT := Lib.hid ht
  clear ht
  obtain ⟨a, HA⟩ : ∃ a, Hid (a = (n + 719162) % 7 + 1) := ⟨_, Lib.hid rfl⟩
  obtain ⟨b, HB⟩ : ∃ b, Hid (b = (n + 1 + 719162) % 7 + 1) := ⟨_, Lib.hid rfl⟩
  have a1 : 1 ≤ a := by rw [HA.out]; omega
  have a2 : a ≤ 7 := by rw [HA.out]; omega
  have hab : (b != a % 7 + 1) = false := by rw [HA.out, HB.out]; simp; omega
  go_enter Tryd.func6, Tryd.ntmps6
  go_wp2_with fail
  refine (known_any _ HT.out).mono ?_
  rintro e w1 ⟨rfl, hb1⟩
  have HB1 := Lib.hid hb1
  have HT1 := Lib.hid (HT.out.below hb1)
  clear hb1
  go_wp2_with fail
  refine (Civil_yes n n1 (by omega) _).mono ?_
  rintro e w' ⟨y, m, d, hd, hn, rfl, rfl⟩
  obtain ⟨y, m, d, rfl, rfl, rfl, hy, hm, hdd⟩ := hd.nat
  have HD := Lib.hid hd
  have HN := Lib.hid hn
  have y1 := hd.y1
  have y2 := hd.y2
  have m1 := hd.m1
  have m2 := hd.m2
  have d1 := hd.d1
  have d2 := hd.d2
  have hmd := mdays_bd y m
  clear hd hn
  go_wp2_with fail
  refine (Civil_yes (n + 1) (by omega) (by omega) _).mono ?_
  rintro e w' ⟨p, q, r, hd, hn, rfl, rfl⟩
  obtain ⟨p, q, r, rfl, rfl, rfl, hp, hq, hr⟩ := hd.nat
  have HD2 := Lib.hid hd
  have HN2 := Lib.hid hn
  have HS := Lib.hid (succ_ok HD.out hd (by rw [hn, HN.out]))
  clear hd hn
  go_wp2_with fail
  refine (MonthDays_yes _ _ y1 y2 m1 m2 _).mono ?_
  rintro e w' ⟨rfl, rfl⟩
  go_wp2_with fail
  refine (Weekday_yes n n1 (by omega) _).mono ?_
  rw [← HA.out]
  rintro e w' ⟨rfl, rfl⟩
  go_wp2_with fail
  refine (Weekday_yes (n + 1) (by omega) (by omega) _).mono ?_
  rw [← HB.out]
  rintro e w' ⟨rfl, rfl⟩
  go_wp2_with fail
  refine (Text_yes n n1 (by omega) _ HT1.out).mono ?_
  rintro e w2 ⟨y', m', d', hd, hn, rfl, hb2⟩
  obtain ⟨e1, e2, e3⟩ := hd.inj HD.out (hn.trans HN.out.symm)
  obtain rfl : y' = y := by omega
  obtain rfl : m' = m := by omega
  obtain rfl : d' = d := by omega
  have HB2 := Lib.hid (below_trans HB1.out hb2)
  have HT2 := Lib.hid (HT1.out.below hb2)
  clear hb2 hd hn e1 e2 e3
  obtain ⟨s, HSS⟩ : ∃ s : ByteArray, Hid (s = ⟨(dateL y' m' d').toArray⟩) := ⟨_, Lib.hid rfl⟩
  rw [← HSS.out]
  go_wp2_with fail
  refine (Text_yes (n + 1) (by omega) (by omega) _ HT2.out).mono ?_
  rintro e w3 ⟨p', q', r', hd, hn, rfl, hb3⟩
  obtain ⟨e1, e2, e3⟩ := hd.inj HD2.out (hn.trans HN2.out.symm)
  obtain rfl : p' = p := by omega
  obtain rfl : q' = q := by omega
  obtain rfl : r' = r := by omega
  have HB3 := Lib.hid (below_trans HB2.out hb3)
  clear hb3 hd hn e1 e2 e3
  obtain ⟨t, HTT⟩ : ∃ t : ByteArray, Hid (t = ⟨(dateL p' q' r').toArray⟩) := ⟨_, Lib.hid rfl⟩
  rw [← HTT.out]
  have hlt : Op.bytesLess s.toList t.toList = true := by rw [HSS.out, HTT.out]; exact succ_less HS.out hp hq hr
  rcases HS.out with ⟨c0, c1, c2, c3⟩ | ⟨c0, cm, c1, c2, c3⟩ | ⟨c0, cm, c1, c2, c3⟩
  · obtain rfl : p' = y' := by omega
    obtain rfl : q' = m' := by omega
    obtain rfl : r' = d' + 1 := by omega
    clear c1 c2 c3
    go_wp2_with fail
    go_ret
    exact ⟨rfl, HB3.out⟩
  · obtain rfl : p' = y' := by omega
    obtain rfl : q' = m' + 1 := by omega
    obtain rfl : r' = 1 := by omega
    have c5 : ¬ (d' : Int) < mdays p' m' := by omega
    clear c0 c1 c2 c3
    go_wp2_with fail
    go_ret
    exact ⟨rfl, HB3.out⟩
  · obtain rfl : p' = y' + 1 := by omega
    obtain rfl : q' = 1 := by omega
    obtain rfl : r' = 1 := by omega
    have c5 : ¬ (d' : Int) < mdays y' m' := by omega
    have c6 : ¬ (m' : Int) < 12 := by omega
    clear c0 c1 c2 c3 cm
    go_wp2_with fail
    go_ret
    exact ⟨rfl, HB3.out⟩

theorem lawSucc (n : Int) (w : World) (ht : CalTab w) : Calls Tryd.prog 6 #[.int .i64 n] w fun e w' => e = .returned (.bool true) ∧ Below w.heap.size w w' := by
  by_cases h : n < -719162 ∨ 2932896 ≤ n
  · exact lawSucc_out n h w ht
  · exact lawSucc_in n (by omega) (by omega) w ht

end Go.Proofs.YthkkjfofpoifiaaDoor
