/- Calendar: contracts of Weekday, Week, AddMonths, Split, Join. -/
import Derived.Test.YthkkjfofpoifiaaDoorCalW
namespace Go.Proofs.YthkkjfofpoifiaaDoor
open Go.RowKit

theorem ret2_pair {a b : Int} {r : Int × Int} (h : r = (a, b)) : Ending.returned (.tuple #[.int .i64 a, .int .i64 b]) = Ending.returned (.tuple #[.int .i64 r.1, .int .i64 r.2]) := by rw [h]
theorem ret3_mid {a b : Int} {u v : Value} (h : a = b) : Ending.returned (.tuple #[u, .int .i64 a, v]) = Ending.returned (.tuple #[u, .int .i64 b, v]) := by rw [h]

set_option maxHeartbeats 400000 in
theorem Weekday_yes (n : Int) (h1 : -719162 ≤ n) (h2 : n ≤ 2932896) (w : World) : Calls Tryd.prog 24 #[.int .i64 n] w fun e w' => e = .returned (.tuple #[.int .i64 ((n + 719162) % 7 + 1), .int .i64 0]) ∧ w = w' := by
  go_enter Tryd.func24, Tryd.ntmps24
  go_wp2_with fail
  refine (in_yes _ _ _ h1 h2 _).mono ?_
  rintro e w' ⟨rfl, rfl⟩
  go_wp2_with fail
  go_ret2
  exact ⟨rfl, rfl⟩
set_option maxHeartbeats 400000 in
theorem Weekday_no (n : Int) (h : ¬ (-719162 ≤ n ∧ n ≤ 2932896)) (w : World) : Calls Tryd.prog 24 #[.int .i64 n] w fun e w' => e = .returned (.tuple #[.int .i64 0, .int .i64 2]) ∧ w = w' := by
  have H := Lib.hid h
  clear h
  go_enter Tryd.func24, Tryd.ntmps24
  go_wp2_with fail
  refine (in_no _ _ _ H.out _).mono ?_
  rintro e w' ⟨rfl, rfl⟩
  go_wp2_with fail
  go_ret2
  exact ⟨rfl, rfl⟩

/-- The Thursday of a day's week. -/
def thu (n : Int) : Int := n - ((n + 719162) % 7 + 1) + 4
theorem thu_bd (n : Int) (h1 : -719162 ≤ n) (h2 : n ≤ 2932896) : -719162 ≤ thu n ∧ thu n ≤ 2932896 := by unfold thu; omega
/-- What Week returns. -/
def WeekPost (n : Int) (w : World) (e : Ending) (w' : World) : Prop := ∃ y m d, Date y m d ∧ dnum y m d = thu n ∧ e = .returned (.tuple #[.int .i64 y, .int .i64 ((thu n + 719162 - bef y) / 7 + 1), .int .i64 0]) ∧ w = w'
set_option maxHeartbeats 1000000 in
theorem Week_yes (n : Int) (h1 : -719162 ≤ n) (h2 : n ≤ 2932896) (w : World) : Calls Tryd.prog 28 #[.int .i64 n] w (WeekPost n w) := by
  have ht := thu_bd n h1 h2
  have ht1 := ht.1
  have ht2 := ht.2
  clear ht
  have HM : Hid (n - ((n + 719162) % 7 + 1) + 4 = thu n) := Lib.hid rfl
  have hle : n - ((n + 719162) % 7 + 1) + 4 ≤ 2932896 := by omega
  go_enter Tryd.func28, Tryd.ntmps28
  go_wp2_with fail
  refine (Weekday_yes n h1 h2 _).mono ?_
  rintro e w' ⟨rfl, rfl⟩
  go_wp2_with fail
  rw [HM.out]
  generalize HT : thu n = t at ht1 ht2
  have HT' := Lib.hid HT
  clear HT HM
  refine (Civil_yes t ht1 ht2 _).mono ?_
  rintro e w' ⟨y, m, d, hd, hn, rfl, rfl⟩
  have y1 := hd.y1
  have y2 := hd.y2
  have hb := bef_bd y y1 (by omega)
  have hy := hd.in_year.1
  rw [hn] at hy
  have HD := Lib.hid hd
  have HN := Lib.hid hn
  clear hd hn
  go_wp2_with fail
  refine (before_any y y1 (by omega) _).mono ?_
  rintro e w' ⟨rfl, rfl⟩
  go_wp2_with fail
  go_ret3
  exact ⟨y, m, d, HD.out, by rw [HN.out, HT'.out], ret3_mid (by rw [HT'.out]), rfl⟩
set_option maxHeartbeats 400000 in
theorem Week_no (n : Int) (h : ¬ (-719162 ≤ n ∧ n ≤ 2932896)) (w : World) : Calls Tryd.prog 28 #[.int .i64 n] w fun e w' => e = .returned (.tuple #[.int .i64 0, .int .i64 0, .int .i64 2]) ∧ w = w' := by
  have H := Lib.hid h
  clear h
  go_enter Tryd.func28, Tryd.ntmps28
  go_wp2_with fail
  refine (Weekday_no n H.out _).mono ?_
  rintro e w' ⟨rfl, rfl⟩
  go_wp2_with fail
  go_ret3
  exact ⟨rfl, rfl⟩

/-- What AddMonths returns for a day that is there. -/
def addM (y m d k : Int) : Int × Int :=
  if k < -119988 ∨ 119988 < k then (0, 2) else if 12 * y + m - 1 + k < 12 ∨ 119999 < 12 * y + m - 1 + k then (0, 2)
  else (dnum ((12 * y + m - 1 + k) / 12) ((12 * y + m - 1 + k) % 12 + 1) (min d (mdays ((12 * y + m - 1 + k) / 12) ((12 * y + m - 1 + k) % 12 + 1))), 0)
def AddPost (n k : Int) (w : World) (e : Ending) (w' : World) : Prop := ∃ y m d, Date y m d ∧ dnum y m d = n ∧ e = .returned (.tuple #[.int .i64 (addM y m d k).1, .int .i64 (addM y m d k).2]) ∧ w = w'
set_option maxHeartbeats 1000000 in
theorem Add_yes (n k : Int) (h1 : -719162 ≤ n) (h2 : n ≤ 2932896) (w : World) : Calls Tryd.prog 26 #[.int .i64 n, .int .i64 k] w (AddPost n k w) := by
  go_enter Tryd.func26, Tryd.ntmps26
  go_wp2_with fail
  refine (Civil_yes n h1 h2 _).mono ?_
  rintro e w' ⟨y, m, d, hd, hn, rfl, rfl⟩
  have y1 := hd.y1
  have y2 := hd.y2
  have m1 := hd.m1
  have m2 := hd.m2
  have d1 := hd.d1
  have HD := Lib.hid hd
  have HN := Lib.hid hn
  clear hd hn
  by_cases hk : k < -119988 ∨ 119988 < k
  · have HK := Lib.hid hk
    clear hk
    go_wp2_with fail
    refine (in_no _ _ _ (by have := HK.out; omega) _).mono ?_
    rintro e w' ⟨rfl, rfl⟩
    go_wp2_with fail
    go_ret2
    exact ⟨y, m, d, HD.out, HN.out, ret2_pair (by unfold addM; rw [if_pos HK.out]), rfl⟩
  · have HK := Lib.hid hk
    have k1 : -119988 ≤ k := by omega
    have k2 : k ≤ 119988 := by omega
    clear hk
    go_wp2_with fail
    refine (in_yes _ _ _ k1 k2 _).mono ?_
    rintro e w' ⟨rfl, rfl⟩
    by_cases ht : 12 * y + m - 1 + k < 12 ∨ 119999 < 12 * y + m - 1 + k
    · have HT := Lib.hid ht
      clear ht
      go_wp2_with fail
      refine (in_no _ _ _ (by have := HT.out; omega) _).mono ?_
      rintro e w' ⟨rfl, rfl⟩
      go_wp2_with fail
      go_ret2
      exact ⟨y, m, d, HD.out, HN.out, ret2_pair (by unfold addM; rw [if_neg HK.out, if_pos HT.out]), rfl⟩
    · have HT := Lib.hid ht
      have t1 : 12 ≤ 12 * y + m - 1 + k := by omega
      have t2 : 12 * y + m - 1 + k ≤ 119999 := by omega
      clear ht
      go_wp2_with fail
      refine (in_yes _ _ _ t1 t2 _).mono ?_
      rintro e w' ⟨rfl, rfl⟩
      go_wp2_with fail
      refine (monthDays_any _ _ (by omega) (by omega) (by omega) (by omega) _).mono ?_
      rintro e w' ⟨rfl, rfl⟩
      have hmd := mdays_bd ((12 * y + m - 1 + k) / 12) ((12 * y + m - 1 + k) % 12 + 1)
      have HY := Lib.hid (show 1 ≤ (12 * y + m - 1 + k) / 12 ∧ (12 * y + m - 1 + k) / 12 ≤ 9999 ∧ 1 ≤ (12 * y + m - 1 + k) % 12 + 1 ∧ (12 * y + m - 1 + k) % 12 + 1 ≤ 12 from ⟨by omega, by omega, by omega, by omega⟩)
      have HA : Hid (addM y m d k = (dnum ((12 * y + m - 1 + k) / 12) ((12 * y + m - 1 + k) % 12 + 1) (min d (mdays ((12 * y + m - 1 + k) / 12) ((12 * y + m - 1 + k) % 12 + 1))), 0)) := Lib.hid (by unfold addM; rw [if_neg HK.out, if_neg HT.out])
      by_cases hdm : d ≤ mdays ((12 * y + m - 1 + k) / 12) ((12 * y + m - 1 + k) % 12 + 1)
      · have HDM := Lib.hid hdm
        go_wp2_with fail
        refine (Days_yes _ _ _ ⟨HY.out.1, HY.out.2.1, HY.out.2.2.1, HY.out.2.2.2, d1, HDM.out⟩ _).mono ?_
        rintro e w' ⟨rfl, rfl⟩
        go_wp2_with fail
        go_ret2
        exact ⟨y, m, d, HD.out, HN.out, ret2_pair (by rw [HA.out, Int.min_eq_left HDM.out]), rfl⟩
      · have HDM := Lib.hid (show mdays ((12 * y + m - 1 + k) / 12) ((12 * y + m - 1 + k) % 12 + 1) ≤ d by omega)
        go_wp2_with fail
        refine (Days_yes _ _ _ ⟨HY.out.1, HY.out.2.1, HY.out.2.2.1, HY.out.2.2.2, by omega, Int.le_refl _⟩ _).mono ?_
        rintro e w' ⟨rfl, rfl⟩
        go_wp2_with fail
        go_ret2
        exact ⟨y, m, d, HD.out, HN.out, ret2_pair (by rw [HA.out, Int.min_eq_right HDM.out]), rfl⟩
set_option maxHeartbeats 400000 in
theorem Add_no (n k : Int) (h : ¬ (-719162 ≤ n ∧ n ≤ 2932896)) (w : World) : Calls Tryd.prog 26 #[.int .i64 n, .int .i64 k] w fun e w' => e = .returned (.tuple #[.int .i64 0, .int .i64 2]) ∧ w = w' := by
  have H := Lib.hid h
  clear h
  go_enter Tryd.func26, Tryd.ntmps26
  go_wp2_with fail
  refine (Civil_no n H.out _).mono ?_
  rintro e w' ⟨rfl, rfl⟩
  go_wp2_with fail
  go_ret2
  exact ⟨rfl, rfl⟩

set_option maxHeartbeats 400000 in
theorem Join_yes (n r : Int) (h1 : -719162 ≤ n) (h2 : n ≤ 2932896) (h3 : 0 ≤ r) (h4 : r ≤ 86399999) (w : World) : Calls Tryd.prog 22 #[.int .i64 n, .int .i64 r] w fun e w' => e = .returned (.tuple #[.int .i64 (n * 86400000 + r), .int .i64 0]) ∧ w = w' := by
  go_enter Tryd.func22, Tryd.ntmps22
  go_wp2_with fail
  refine (in_yes _ _ _ h1 h2 _).mono ?_
  rintro e w' ⟨rfl, rfl⟩
  go_wp2_with fail
  refine (in_yes _ _ _ h3 h4 _).mono ?_
  rintro e w' ⟨rfl, rfl⟩
  go_wp2_with fail
  go_ret2
  exact ⟨rfl, rfl⟩
set_option maxHeartbeats 400000 in
theorem Join_no (n r : Int) (h : ¬ (-719162 ≤ n ∧ n ≤ 2932896 ∧ 0 ≤ r ∧ r ≤ 86399999)) (w : World) : Calls Tryd.prog 22 #[.int .i64 n, .int .i64 r] w fun e w' => e = .returned (.tuple #[.int .i64 0, .int .i64 2]) ∧ w = w' := by
  by_cases hn : -719162 ≤ n ∧ n ≤ 2932896
  · have HN := Lib.hid hn
    have HR : Hid (¬ (0 ≤ r ∧ r ≤ 86399999)) := Lib.hid (by omega)
    clear h hn
    go_enter Tryd.func22, Tryd.ntmps22
    go_wp2_with fail
    refine (in_yes _ _ _ HN.out.1 HN.out.2 _).mono ?_
    rintro e w' ⟨rfl, rfl⟩
    go_wp2_with fail
    refine (in_no _ _ _ HR.out _).mono ?_
    rintro e w' ⟨rfl, rfl⟩
    go_wp2_with fail
    go_ret2
    exact ⟨rfl, rfl⟩
  · have HN := Lib.hid hn
    clear h hn
    go_enter Tryd.func22, Tryd.ntmps22
    go_wp2_with fail
    refine (in_no _ _ _ HN.out _).mono ?_
    rintro e w' ⟨rfl, rfl⟩
    go_wp2_with fail
    go_ret2
    exact ⟨rfl, rfl⟩

end Go.Proofs.YthkkjfofpoifiaaDoor
