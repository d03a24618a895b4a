/- Calendar, plain: leap years, months, numbers of days. -/
namespace Go.Proofs.YthkkjfofpoifiaaDoor

/-- 1 for a leap year, else 0. -/
def lp (y : Int) : Int := if y % 4 = 0 ∧ (y % 100 ≠ 0 ∨ y % 400 = 0) then 1 else 0
theorem lp_01 (y : Int) : 0 ≤ lp y ∧ lp y ≤ 1 := by unfold lp; split <;> omega

/-- The days of a month. -/
def mdays (y m : Int) : Int :=
  if m = 1 then 31 else if m = 2 then 28 + lp y else if m = 3 then 31 else if m = 4 then 30 else if m = 5 then 31 else if m = 6 then 30 else
  if m = 7 then 31 else if m = 8 then 31 else if m = 9 then 30 else if m = 10 then 31 else if m = 11 then 30 else 31
theorem mdays_bd (y m : Int) : 28 ≤ mdays y m ∧ mdays y m ≤ 31 := by
  have := lp_01 y
  unfold mdays
  repeat' split
  all_goals omega

/-- The days before a year, from the year 1 on. -/
def bef (y : Int) : Int := 365 * (y - 1) + (y - 1) / 4 - (y - 1) / 100 + (y - 1) / 400
theorem bef_succ (y : Int) : bef (y + 1) = bef y + 365 + lp y := by
  unfold bef lp
  split <;> omega
theorem bef_one : bef 1 = 0 := by decide
theorem bef_nonneg (y : Int) (h : 1 ≤ y) : 0 ≤ bef y := by unfold bef; omega
theorem bef_mono {a b : Int} (h : a ≤ b) : bef a ≤ bef b := by unfold bef; omega
theorem bef_lt {a b : Int} (h : a < b) : bef a + 365 ≤ bef b := by
  have h1 := bef_mono (show a + 1 ≤ b by omega)
  have h2 := bef_succ a
  have h3 := lp_01 a
  omega
theorem bef_bd (y : Int) (h : 1 ≤ y) (h2 : y ≤ 10000) : 0 ≤ bef y ∧ bef y ≤ 3652059 := by unfold bef; omega
theorem bef_max : bef 10000 = 3652059 := by decide
/-- A first guess. -/
theorem bef_guess_hi (n : Int) (h : 0 ≤ n) : n < bef (n / 365 + 2) := by unfold bef; omega
theorem bef_guess_lo (n : Int) (h : 0 ≤ n) : bef (n / 366 + 1) ≤ n := by unfold bef; omega

/-- The days of a year before a month. -/
def cum (y m : Int) : Int :=
  if m ≤ 1 then 0 else if m = 2 then 31 else if m = 3 then 59 + lp y else if m = 4 then 90 + lp y else if m = 5 then 120 + lp y else if m = 6 then 151 + lp y else if m = 7 then 181 + lp y else
  if m = 8 then 212 + lp y else if m = 9 then 243 + lp y else if m = 10 then 273 + lp y else if m = 11 then 304 + lp y else if m = 12 then 334 + lp y else 365 + lp y
theorem cum_one (y : Int) : cum y 1 = 0 := rfl
theorem m_cases {m : Int} (h1 : 1 ≤ m) (h2 : m ≤ 12) : m = 1 ∨ m = 2 ∨ m = 3 ∨ m = 4 ∨ m = 5 ∨ m = 6 ∨ m = 7 ∨ m = 8 ∨ m = 9 ∨ m = 10 ∨ m = 11 ∨ m = 12 := by omega
theorem cum_succ (y m : Int) (h1 : 1 ≤ m) (h2 : m ≤ 12) : cum y (m + 1) = cum y m + mdays y m := by
  rcases m_cases h1 h2 with rfl | rfl | rfl | rfl | rfl | rfl | rfl | rfl | rfl | rfl | rfl | rfl <;> simp [cum, mdays] <;> omega
theorem cum_13 (y : Int) : cum y 13 = 365 + lp y := rfl
theorem cum_succ_le (y m : Int) (h1 : 1 ≤ m) (h2 : m ≤ 12) : cum y m + 28 ≤ cum y (m + 1) := by
  have := cum_succ y m h1 h2
  have := mdays_bd y m
  omega
theorem cum_low (y m : Int) (h : m ≤ 1) : cum y m = 0 := by unfold cum; rw [if_pos h]
theorem cum_high (y m : Int) (h : 13 ≤ m) : cum y m = 365 + lp y := by
  unfold cum
  rw [if_neg (by omega), if_neg (by omega), if_neg (by omega), if_neg (by omega), if_neg (by omega), if_neg (by omega), if_neg (by omega), if_neg (by omega), if_neg (by omega), if_neg (by omega), if_neg (by omega), if_neg (by omega)]
theorem cum_step (y : Int) : ∀ (k : Nat) (m : Int), 1 ≤ m → m + k ≤ 13 → cum y m ≤ cum y (m + k)
  | 0, m, _, _ => by simp
  | k + 1, m, h1, h2 => by
    have ih := cum_step y k m h1 (by omega)
    have := cum_succ_le y (m + k) (by omega) (by omega)
    rw [show m + ((k + 1 : Nat) : Int) = m + k + 1 by omega]
    omega
theorem cum_mono (y : Int) {m k : Int} (h1 : 1 ≤ m) (h : m < k) (h2 : k ≤ 13) : cum y m + mdays y m ≤ cum y k := by
  rw [← cum_succ y m h1 (by omega)]
  have := cum_step y (k - (m + 1)).toNat (m + 1) (by omega) (by omega)
  rwa [show m + 1 + ((k - (m + 1)).toNat : Int) = k by omega] at this
theorem cum_bd (y m : Int) : 0 ≤ cum y m ∧ cum y m ≤ 366 := by
  have hl := lp_01 y
  by_cases h1 : m ≤ 1
  · rw [cum_low y m h1]; omega
  · by_cases h2 : 13 ≤ m
    · rw [cum_high y m h2]; omega
    · have a := cum_step y (m - 1).toNat 1 (by omega) (by omega)
      have b := cum_step y (13 - m).toNat m (by omega) (by omega)
      rw [show (1 : Int) + ((m - 1).toNat : Int) = m by omega, cum_one] at a
      rw [show m + ((13 - m).toNat : Int) = 13 by omega, cum_13] at b
      omega

/-- A date that there is. -/
structure Date (y m d : Int) : Prop where
  y1 : 1 ≤ y
  y2 : y ≤ 9999
  m1 : 1 ≤ m
  m2 : m ≤ 12
  d1 : 1 ≤ d
  d2 : d ≤ mdays y m
/-- The number of a day. -/
def dnum (y m d : Int) : Int := -719162 + bef y + cum y m + d - 1
theorem Date.in_year {y m d : Int} (h : Date y m d) : bef y ≤ dnum y m d + 719162 ∧ dnum y m d + 719162 < bef (y + 1) := by
  have h1 := cum_mono y h.m1 (show m < 13 by have := h.m2; omega) (by omega)
  have h2 := cum_bd y m
  have h3 := bef_succ y
  have h4 := h.d1
  have h5 := h.d2
  rw [cum_13] at h1
  unfold dnum
  omega
theorem Date.range {y m d : Int} (h : Date y m d) : -719162 ≤ dnum y m d ∧ dnum y m d ≤ 2932896 := by
  have h1 := h.in_year
  have h2 := bef_nonneg y h.y1
  have h3 := bef_mono (show y + 1 ≤ 10000 by have := h.y2; omega)
  rw [bef_max] at h3
  omega
theorem Date.same_year {y m d y' m' d' : Int} (h : Date y m d) (h' : Date y' m' d') (e : dnum y m d = dnum y' m' d') : y = y' := by
  have a := h.in_year
  have b := h'.in_year
  rcases Int.lt_trichotomy y y' with c | c | c
  · have := bef_mono (show y + 1 ≤ y' by omega); omega
  · exact c
  · have := bef_mono (show y' + 1 ≤ y by omega); omega
theorem Date.inj {y m d y' m' d' : Int} (h : Date y m d) (h' : Date y' m' d') (e : dnum y m d = dnum y' m' d') : y = y' ∧ m = m' ∧ d = d' := by
  obtain rfl := h.same_year h' e
  have hm : m = m' := by
    have := h.d1; have := h.d2; have := h'.d1; have := h'.d2
    unfold dnum at e
    rcases Int.lt_trichotomy m m' with c | c | c
    · have := cum_mono y h.m1 c (by have := h'.m2; omega); omega
    · exact c
    · have := cum_mono y h'.m1 c (by have := h.m2; omega); omega
  subst hm
  unfold dnum at e
  exact ⟨rfl, rfl, by omega⟩

/-- Successors. -/
theorem Date.next_day {y m d : Int} (h : Date y m d) (hd : d < mdays y m) : Date y m (d + 1) ∧ dnum y m (d + 1) = dnum y m d + 1 := by
  have := h.d1
  exact ⟨⟨h.y1, h.y2, h.m1, h.m2, by omega, by omega⟩, by unfold dnum; omega⟩
theorem Date.next_month {y m d : Int} (h : Date y m d) (hd : d = mdays y m) (hm : m < 12) : Date y (m + 1) 1 ∧ dnum y (m + 1) 1 = dnum y m d + 1 := by
  have := h.m1
  have e := cum_succ y m h.m1 h.m2
  have := mdays_bd y (m + 1)
  exact ⟨⟨h.y1, h.y2, by omega, by omega, by omega, by omega⟩, by unfold dnum; omega⟩
theorem Date.next_year {y m d : Int} (h : Date y m d) (hd : d = mdays y m) (hm : m = 12) (hy : y < 9999) : Date (y + 1) 1 1 ∧ dnum (y + 1) 1 1 = dnum y m d + 1 := by
  subst hm
  have := h.y1
  have e := cum_succ y 12 (by omega) (by omega)
  have e2 := bef_succ y
  rw [show (12 : Int) + 1 = 13 from rfl, cum_13] at e
  have := mdays_bd (y + 1) 1
  exact ⟨⟨by omega, by omega, by omega, by omega, by omega, by omega⟩, by unfold dnum; rw [cum_one]; omega⟩
theorem Date.last {y m d : Int} (h : Date y m d) (hd : d = mdays y m) (hm : m = 12) (hy : y = 9999) : dnum y m d = 2932896 := by
  subst hm hy hd; decide

end Go.Proofs.YthkkjfofpoifiaaDoor
