/- Calendar: contracts of Split and TimeText; the law CalendarTimes. -/
import Derived.Test.YthkkjfofpoifiaaDoorCalB
import Derived.Test.YthkkjfofpoifiaaDoorCalH
namespace Go.Proofs.YthkkjfofpoifiaaDoor
open Go.RowKit

theorem ret3_two {a b c d : Int} {v : Value} (h : a = b) (h' : c = d) : Ending.returned (.tuple #[.int .i64 a, .int .i64 c, v]) = Ending.returned (.tuple #[.int .i64 b, .int .i64 d, v]) := by rw [h, h']
theorem ret2_two {a b c d : Int} (h : a = b) (h' : c = d) : Ending.returned (.tuple #[.int .i64 a, .int .i64 c]) = Ending.returned (.tuple #[.int .i64 b, .int .i64 d]) := by rw [h, h']

set_option maxHeartbeats 400000 in
theorem Split_no (n : Int) (h : ¬ (-62135596800000 ≤ n ∧ n ≤ 253402300799999)) (w : World) : Calls Tryd.prog 36 #[.int .i64 n] w fun e w' => e = .returned (.tuple #[.int .i64 0, .int .i64 0, .int .i64 2]) ∧ w = w' := by
  have H := Lib.hid h
  clear h
  go_enter Tryd.func36, Tryd.ntmps36
  go_wp2_with fail
  refine (in_no _ _ _ H.out _).mono ?_
  rintro e w' ⟨rfl, rfl⟩
  go_wp2_with fail
  go_ret3
  exact ⟨rfl, rfl⟩
theorem frac_cases (r : Nat) : r % 1000 = 0 ∨ ¬ r % 1000 = 0 := Decidable.em _
theorem tparts (n : Int) : 86400000 * n.tdiv 86400000 + n.tmod 86400000 = n ∧ n.tmod 86400000 < 86400000 ∧ -86400000 < n.tmod 86400000 :=
  ⟨Int.mul_tdiv_add_tmod n 86400000, Int.tmod_lt_of_pos n (by omega), Int.lt_tmod_of_pos n (by omega)⟩
/-- A time is a day and the rest. -/
structure Parts (n D : Int) (r : Nat) : Prop where
  eq : n = D * 86400000 + (r : Int)
  r2 : r < 86400000
  d1 : -719162 ≤ D
  d2 : D ≤ 2932896
theorem Parts.n1 {n D : Int} {r : Nat} (h : Parts n D r) : -62135596800000 ≤ n ∧ n ≤ 253402300799999 := by
  have := h.eq; have := h.r2; have := h.d1; have := h.d2; omega
theorem parts_of {n : Int} (h : -62135596800000 ≤ n ∧ n ≤ 253402300799999) : ∃ D r, Parts n D r :=
  ⟨n / 86400000, (n % 86400000).toNat, by omega, by omega, by omega, by omega⟩
set_option maxHeartbeats 400000 in
theorem Split_yes {n D : Int} {r : Nat} (h : Parts n D r) (w : World) : Calls Tryd.prog 36 #[.int .i64 n] w fun e w' => e = .returned (.tuple #[.int .i64 D, .int .i64 (r : Int), .int .i64 0]) ∧ w = w' := by
  obtain ⟨n1, n2⟩ := h.n1
  have H := Lib.hid h
  clear h
  go_enter Tryd.func36, Tryd.ntmps36
  go_wp2_with fail
  refine (in_yes _ _ _ n1 n2 _).mono ?_
  rintro e w' ⟨rfl, rfl⟩
  go_wp2_with fail
  go_ret3
  exact ⟨ret3_two (by have := H.out.eq; have := H.out.r2; omega) (by have := H.out.eq; have := H.out.r2; omega), rfl⟩
theorem Join_parts {n D : Int} {r : Nat} (h : Parts n D r) (w : World) : Calls Tryd.prog 22 #[.int .i64 D, .int .i64 (r : Int)] w fun e w' => e = .returned (.tuple #[.int .i64 n, .int .i64 0]) ∧ w = w' := by
  have := h.r2
  rw [h.eq]
  exact Join_yes D (r : Int) h.d1 h.d2 (by omega) (by omega) w

set_option maxHeartbeats 400000 in
theorem TimeText_no (n : Int) (h : ¬ (-62135596800000 ≤ n ∧ n ≤ 253402300799999)) (w : World) : Calls Tryd.prog 37 #[.int .i64 n] w fun e w' => e = .returned (.tuple #[.string ⟨#[]⟩, .int .i64 2]) ∧ w = w' := by
  have H := Lib.hid h
  clear h
  go_enter Tryd.func37, Tryd.ntmps37
  go_wp2_with fail
  refine (Split_no n H.out _).mono ?_
  rintro e w' ⟨rfl, rfl⟩
  go_wp2_with fail
  go_ret2
  exact ⟨rfl, rfl⟩
/-- What TimeText returns. -/
def TimePost (D : Int) (r : Nat) (w : World) (e : Ending) (w' : World) : Prop := ∃ y m d : Nat, Date y m d ∧ dnum y m d = D ∧ e = .returned (.tuple #[.string ⟨(timeL y m d r).toArray⟩, .int .i64 0]) ∧ Below w.heap.size w w'
/-- The calls of padded in TimeText. -/
theorem pad_calls {r : Nat} (h : r < 86400000) : ∃ p1 p2 p3 p4 : ByteArray, (p1.data.toList = dgs (r / 3600000) 2 ∧ p2.data.toList = dgs (r / 60000 % 60) 2 ∧ p3.data.toList = dgs (r / 1000 % 60) 2 ∧ p4.data.toList = dgs (r % 1000) 3) ∧
    (∀ w, CalTab w → Calls Tryd.prog 47 #[.int .i64 ((r : Int) / 1000 / 3600), .int .i64 2] w fun e w' => e = .returned (.string p1) ∧ Below w.heap.size w w') ∧
    (∀ w, CalTab w → Calls Tryd.prog 47 #[.int .i64 ((r : Int) / 1000 / 60 % 60), .int .i64 2] w fun e w' => e = .returned (.string p2) ∧ Below w.heap.size w w') ∧
    (∀ w, CalTab w → Calls Tryd.prog 47 #[.int .i64 ((r : Int) / 1000 % 60), .int .i64 2] w fun e w' => e = .returned (.string p3) ∧ Below w.heap.size w w') ∧
    (∀ w, CalTab w → Calls Tryd.prog 47 #[.int .i64 ((r : Int) % 1000), .int .i64 3] w fun e w' => e = .returned (.string p4) ∧ Below w.heap.size w w') := by
  refine ⟨⟨(dgs (r / 3600000) 2).toArray⟩, ⟨(dgs (r / 60000 % 60) 2).toArray⟩, ⟨(dgs (r / 1000 % 60) 2).toArray⟩, ⟨(dgs (r % 1000) 3).toArray⟩, ⟨rfl, rfl, rfl, rfl⟩, fun w ht => ?_, fun w ht => ?_, fun w ht => ?_, fun w ht => ?_⟩
  · rw [show (r : Int) / 1000 / 3600 = ((r / 3600000 : Nat) : Int) by omega]
    exact padded2 _ (by omega) w ht
  · rw [show (r : Int) / 1000 / 60 % 60 = ((r / 60000 % 60 : Nat) : Int) by omega]
    exact padded2 _ (by omega) w ht
  · rw [show (r : Int) / 1000 % 60 = ((r / 1000 % 60 : Nat) : Int) by omega]
    exact padded2 _ (by omega) w ht
  · rw [show (r : Int) % 1000 = ((r % 1000 : Nat) : Int) by omega]
    exact padded3 _ (by omega) w ht
set_option maxRecDepth 100000 in
set_option maxHeartbeats 2000000 in
theorem TimeText_yes {n D : Int} {r : Nat} (h : Parts n D r) (w : World) (ht : CalTab w) : Calls Tryd.prog 37 #[.int .i64 n] w (TimePost D r w) := by
  have HT := Lib.hid ht
  have H := Lib.hid h
  obtain ⟨p1, p2, p3, p4, hE, c1, c2, c3, c4⟩ := pad_calls h.r2
  have HE := Lib.hid hE
  have z1 : p1.size = 2 := by rw [← size_len, hE.1, dgs_len]
  have z2 : p2.size = 2 := by rw [← size_len, hE.2.1, dgs_len]
  have z3 : p3.size = 2 := by rw [← size_len, hE.2.2.1, dgs_len]
  have z4 : p4.size = 3 := by rw [← size_len, hE.2.2.2, dgs_len]
  have HC1 := Lib.hid c1
  have HC2 := Lib.hid c2
  have HC3 := Lib.hid c3
  have HC4 := Lib.hid c4
  have hr1 : (0 : Int) ≤ (r : Int) := by omega
  have hr2 : (r : Int) < 86400000 := by have := h.r2; omega
  have hq1 : (0 : Int) ≤ (r : Int) / 1000 := by omega
  have hq2 : (0 : Int) ≤ (r : Int) / 1000 / 60 := by omega
  clear h ht hE c1 c2 c3 c4
  go_enter Tryd.func37, Tryd.ntmps37
  go_wp2_with fail
  refine (Split_yes H.out _).mono ?_
  rintro e w' ⟨rfl, rfl⟩
  go_wp2_with fail
  refine (Text_yes D H.out.d1 H.out.d2 _ HT.out).mono ?_
  rintro e w1 ⟨y, m, d, hd, hn, rfl, hb1⟩
  have HB1 := Lib.hid hb1
  have HT1 := Lib.hid (HT.out.below hb1)
  have HD := Lib.hid hd
  have HN := Lib.hid hn
  obtain ⟨t, HTX, z0⟩ : ∃ t : ByteArray, Hid (t = ⟨(dateL y m d).toArray⟩) ∧ t.size = 10 := ⟨_, Lib.hid rfl, by rw [← size_len]; exact dateL_len y m d⟩
  rw [← HTX.out]
  clear hd hn hb1
  go_wp2_with fail
  refine (HC1.out _ HT1.out).mono ?_
  rintro e w2 ⟨rfl, hb2⟩
  have HB2 := Lib.hid (below_trans HB1.out hb2)
  have HT2 := Lib.hid (HT1.out.below hb2)
  clear hb2
  go_wp2_with fail
  refine (HC2.out _ HT2.out).mono ?_
  rintro e w3 ⟨rfl, hb3⟩
  have HB3 := Lib.hid (below_trans HB2.out hb3)
  have HT3 := Lib.hid (HT2.out.below hb3)
  clear hb3
  go_wp2_with fail
  refine (HC3.out _ HT3.out).mono ?_
  rintro e w4 ⟨rfl, hb4⟩
  have HB4 := Lib.hid (below_trans HB3.out hb4)
  have HT4 := Lib.hid (HT3.out.below hb4)
  clear hb4
  rcases frac_cases r with h0 | h0
  · have H0 := Lib.hid h0
    have b1 : ((r : Int) % 1000 != 0) = false := by simp; omega
    have b2 : ((r : Int) % 1000 == 0) = true := by simp; omega
    clear h0
    go_wp2_with fail
    go_ret2
    exact ⟨y, m, d, HD.out, HN.out, ret2_str (by apply str_ext; rw [timeL_eq, ← HE.out.1, ← HE.out.2.1, ← HE.out.2.2.1, HTX.out]; unfold fracL; rw [if_pos H0.out]; simp), HB4.out⟩
  · have H0 := Lib.hid h0
    have b1 : ((r : Int) % 1000 != 0) = true := by simp; omega
    have b2 : ((r : Int) % 1000 == 0) = false := by simp; omega
    clear h0
    go_wp2_with fail
    refine (HC4.out _ HT4.out).mono ?_
    rintro e w5 ⟨rfl, hb5⟩
    have HB5 := Lib.hid (below_trans HB4.out hb5)
    clear hb5
    go_wp2_with fail
    go_ret2
    exact ⟨y, m, d, HD.out, HN.out, ret2_str (by apply str_ext; rw [timeL_eq, ← HE.out.1, ← HE.out.2.1, ← HE.out.2.2.1, HTX.out]; unfold fracL; rw [if_neg H0.out, ← HE.out.2.2.2]; simp), HB5.out⟩

set_option maxHeartbeats 400000 in
theorem rSplit_yes {n D : Int} {r : Nat} (h : Parts n D r) (w : World) : Calls Tryd.prog 38 #[.int .i64 n] w fun e w' => e = .returned (.tuple #[.int .i64 D, .int .i64 (r : Int)]) ∧ w = w' := by
  have H := Lib.hid h
  obtain ⟨n1, n2⟩ := h.n1
  by_cases hneg : n.tmod 86400000 < 0
  · have HV : Hid (n.tdiv 86400000 - 1 = D ∧ n.tmod 86400000 + 86400000 = (r : Int)) := Lib.hid (by have := h.eq; have := h.r2; have := tparts n; omega)
    have q1 : -719163 ≤ n.tdiv 86400000 := by have := HV.out.1; have := h.d1; omega
    have q2 : n.tdiv 86400000 ≤ 2932897 := by have := HV.out.1; have := h.d2; omega
    have q3 : -86400000 ≤ n.tmod 86400000 := by have := HV.out.2; omega
    clear h n1 n2
    go_enter Tryd.func38, Tryd.ntmps38
    go_wp2_with fail
    go_ret2
    exact ⟨ret2_two HV.out.1 HV.out.2, rfl⟩
  · have HV : Hid (n.tdiv 86400000 = D ∧ n.tmod 86400000 = (r : Int)) := Lib.hid (by have := h.eq; have := h.r2; have := tparts n; have : 0 ≤ n → 0 ≤ n.tmod 86400000 := fun a => Int.tmod_nonneg _ a; omega)
    have HD := Lib.hid (And.intro h.d1 h.d2)
    clear h n1 n2
    go_enter Tryd.func38, Tryd.ntmps38
    go_wp2_with fail
    go_ret2
    exact ⟨ret2_two ((w64' (by have := HV.out.1; have := HD.out.1; omega) (by have := HV.out.1; have := HD.out.2; omega)).trans HV.out.1) HV.out.2, rfl⟩

theorem dig_calls {r : Nat} (h : r < 86400000) : ∃ p1 p2 p3 p4 : ByteArray, (p1.data.toList = dgs (r / 3600000) 2 ∧ p2.data.toList = dgs (r / 60000 % 60) 2 ∧ p3.data.toList = dgs (r / 1000 % 60) 2 ∧ p4.data.toList = dgs (r % 1000) 3) ∧
    (∀ w, Calls Tryd.prog 49 #[.int .i64 ((r : Int) / 3600000), .int .i64 2] w fun e w' => e = .returned (.string p1) ∧ Below w.heap.size w w') ∧
    (∀ w, Calls Tryd.prog 49 #[.int .i64 ((r : Int) / 60000 % 60), .int .i64 2] w fun e w' => e = .returned (.string p2) ∧ Below w.heap.size w w') ∧
    (∀ w, Calls Tryd.prog 49 #[.int .i64 ((r : Int) / 1000 % 60), .int .i64 2] w fun e w' => e = .returned (.string p3) ∧ Below w.heap.size w w') ∧
    (∀ w, Calls Tryd.prog 49 #[.int .i64 ((r : Int) % 1000), .int .i64 3] w fun e w' => e = .returned (.string p4) ∧ Below w.heap.size w w') := by
  refine ⟨⟨(dgs (r / 3600000) 2).toArray⟩, ⟨(dgs (r / 60000 % 60) 2).toArray⟩, ⟨(dgs (r / 1000 % 60) 2).toArray⟩, ⟨(dgs (r % 1000) 3).toArray⟩, ⟨rfl, rfl, rfl, rfl⟩, fun w => ?_, fun w => ?_, fun w => ?_, fun w => ?_⟩
  · rw [show (r : Int) / 3600000 = ((r / 3600000 : Nat) : Int) by omega]
    exact rDigits2 _ (by omega) w
  · rw [show (r : Int) / 60000 % 60 = ((r / 60000 % 60 : Nat) : Int) by omega]
    exact rDigits2 _ (by omega) w
  · rw [show (r : Int) / 1000 % 60 = ((r / 1000 % 60 : Nat) : Int) by omega]
    exact rDigits2 _ (by omega) w
  · rw [show (r : Int) % 1000 = ((r % 1000 : Nat) : Int) by omega]
    exact rDigits3 _ (by omega) w
/-- What the reference's TimeText returns. -/
def RTimePost (D : Int) (r : Nat) (w : World) (e : Ending) (w' : World) : Prop := ∃ y m d : Nat, Date y m d ∧ dnum y m d = D ∧ e = .returned (.string ⟨(timeL y m d r).toArray⟩) ∧ Below w.heap.size w w'
set_option maxRecDepth 100000 in
set_option maxHeartbeats 2000000 in
theorem rTimeText_yes {n D : Int} {r : Nat} (h : Parts n D r) (w : World) : Calls Tryd.prog 39 #[.int .i64 n] w (RTimePost D r w) := by
  have H := Lib.hid h
  obtain ⟨p1, p2, p3, p4, hE, c1, c2, c3, c4⟩ := dig_calls h.r2
  have HE := Lib.hid hE
  have z1 : p1.size = 2 := by rw [← size_len, hE.1, dgs_len]
  have z2 : p2.size = 2 := by rw [← size_len, hE.2.1, dgs_len]
  have z3 : p3.size = 2 := by rw [← size_len, hE.2.2.1, dgs_len]
  have z4 : p4.size = 3 := by rw [← size_len, hE.2.2.2, dgs_len]
  have HC1 := Lib.hid c1
  have HC2 := Lib.hid c2
  have HC3 := Lib.hid c3
  have HC4 := Lib.hid c4
  have hr1 : (0 : Int) ≤ (r : Int) := by omega
  have hr2 : (r : Int) < 86400000 := by have := h.r2; omega
  have hq1 : (0 : Int) ≤ (r : Int) / 1000 := by omega
  have hq2 : (0 : Int) ≤ (r : Int) / 60000 := by omega
  clear h hE c1 c2 c3 c4
  go_enter Tryd.func39, Tryd.ntmps39
  go_wp2_with fail
  refine (rSplit_yes H.out _).mono ?_
  rintro e w' ⟨rfl, rfl⟩
  go_wp2_with fail
  refine (rText_yes D H.out.d1 H.out.d2 _).mono ?_
  rintro e w1 ⟨y, m, d, hd, hn, rfl, hb1⟩
  have HB1 := Lib.hid hb1
  have HD := Lib.hid hd
  have HN := Lib.hid hn
  obtain ⟨t, HTX, z0⟩ : ∃ t : ByteArray, Hid (t = ⟨(dateL y m d).toArray⟩) ∧ t.size = 10 := ⟨_, Lib.hid rfl, by rw [← size_len]; exact dateL_len y m d⟩
  rw [← HTX.out]
  clear hd hn hb1
  go_wp2_with fail
  refine (HC1.out _).mono ?_
  rintro e w2 ⟨rfl, hb2⟩
  have HB2 := Lib.hid (below_trans HB1.out hb2)
  clear hb2
  go_wp2_with fail
  refine (HC2.out _).mono ?_
  rintro e w3 ⟨rfl, hb3⟩
  have HB3 := Lib.hid (below_trans HB2.out hb3)
  clear hb3
  go_wp2_with fail
  refine (HC3.out _).mono ?_
  rintro e w4 ⟨rfl, hb4⟩
  have HB4 := Lib.hid (below_trans HB3.out hb4)
  clear hb4
  rcases frac_cases r with h0 | h0
  · have H0 := Lib.hid h0
    have b1 : ((r : Int) % 1000 != 0) = false := by simp; omega
    have b2 : ((r : Int) % 1000 == 0) = true := by simp; omega
    clear h0
    go_wp2_with fail
    go_ret
    exact ⟨y, m, d, HD.out, HN.out, ret_str (by apply str_ext; rw [timeL_eq, ← HE.out.1, ← HE.out.2.1, ← HE.out.2.2.1, HTX.out]; unfold fracL; rw [if_pos H0.out]; simp), HB4.out⟩
  · have H0 := Lib.hid h0
    have b1 : ((r : Int) % 1000 != 0) = true := by simp; omega
    have b2 : ((r : Int) % 1000 == 0) = false := by simp; omega
    clear h0
    go_wp2_with fail
    refine (HC4.out _).mono ?_
    rintro e w5 ⟨rfl, hb5⟩
    have HB5 := Lib.hid (below_trans HB4.out hb5)
    clear hb5
    go_wp2_with fail
    go_ret
    exact ⟨y, m, d, HD.out, HN.out, ret_str (by apply str_ext; rw [timeL_eq, ← HE.out.1, ← HE.out.2.1, ← HE.out.2.2.1, HTX.out]; unfold fracL; rw [if_neg H0.out, ← HE.out.2.2.2]; simp), HB5.out⟩

end Go.Proofs.YthkkjfofpoifiaaDoor
