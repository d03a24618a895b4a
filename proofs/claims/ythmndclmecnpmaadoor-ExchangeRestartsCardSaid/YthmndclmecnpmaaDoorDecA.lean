/- Exchange: contracts of the model's checked and encoded (printed by gen_deca.py). -/
import Derived.Test.YthmndclmecnpmaaDoorDecP
import Derived.Test.YthmndclmecnpmaaDoorMoA
namespace Go.Proofs.YthmndclmecnpmaaDoor
open Go.RowKit
attribute [local go_sem ↓] Go.wp_at_zero Go.wp_at_succ

def CheckPost (p : Pkt) (w : World) (e : Ending) (w' : World) : Prop := e = .returned (.int .i64 (pErr p)) ∧ Only Nobody w w'
set_option maxRecDepth 100000 in
set_option maxHeartbeats 4000000 in
theorem checked_1 (nm tx : ByteArray) (nu : Int) (w : World) : Calls Tryd.prog 36 #[.agg #[.int .i64 1, .string nm, .int .i64 nu, .string tx]] w (CheckPost ⟨1, nm, nu, tx⟩ w) := by
  cases hnm : nameB nm with
  | false =>
    have HNM := Lib.hid hnm
    have HF : Hid (pErr ⟨1, nm, nu, tx⟩ = 12) := Lib.hid (by unfold pErr; simp only []; rw [if_neg (by simp), if_pos HNM.out])
    clear hnm
    go_enter Tryd.func36, Tryd.ntmps36
    go_wp2_with fail
    refine (isName_any _ _).mono ?_
    rw [HNM.out]
    rintro e w' ⟨rfl, rfl⟩
    go_wp2_with fail
    go_ret
    exact ⟨ret_int HF.out.symm, (by repeat (first | exact Only.refl _ _ | refine Only.drew ?_ | refine Only.alloc ?_ _))⟩
  | true =>
    have HNM := Lib.hid hnm
    clear hnm
    by_cases n0 : nu < 0
    · skip
      have HF : Hid (pErr ⟨1, nm, nu, tx⟩ = 2) := Lib.hid (by unfold pErr; simp only []; rw [if_neg (by simp), if_neg (by rw [HNM.out]; simp), if_pos (.inl (by simp; omega))])
      go_enter Tryd.func36, Tryd.ntmps36
      go_wp2_with fail
      refine (isName_any _ _).mono ?_
      rw [HNM.out]
      rintro e w' ⟨rfl, rfl⟩
      go_wp2_with fail
      go_ret
      exact ⟨ret_int HF.out.symm, (by repeat (first | exact Only.refl _ _ | refine Only.drew ?_ | refine Only.alloc ?_ _))⟩
    by_cases n2 : 1099511627776 < nu
    · skip
      have HF : Hid (pErr ⟨1, nm, nu, tx⟩ = 2) := Lib.hid (by unfold pErr; simp only []; rw [if_neg (by simp), if_neg (by rw [HNM.out]; simp), if_pos (.inr n2)])
      go_enter Tryd.func36, Tryd.ntmps36
      go_wp2_with fail
      refine (isName_any _ _).mono ?_
      rw [HNM.out]
      rintro e w' ⟨rfl, rfl⟩
      go_wp2_with fail
      go_ret
      exact ⟨ret_int HF.out.symm, (by repeat (first | exact Only.refl _ _ | refine Only.drew ?_ | refine Only.alloc ?_ _))⟩
    by_cases n1 : nu = 0
    · subst n1
      have HF : Hid (pErr ⟨1, nm, 0, tx⟩ = 2) := Lib.hid (by unfold pErr; simp only []; rw [if_neg (by simp), if_neg (by rw [HNM.out]; simp), if_pos (.inl (by simp))])
      go_enter Tryd.func36, Tryd.ntmps36
      go_wp2_with fail
      refine (isName_any _ _).mono ?_
      rw [HNM.out]
      rintro e w' ⟨rfl, rfl⟩
      go_wp2_with fail
      go_ret
      exact ⟨ret_int HF.out.symm, (by repeat (first | exact Only.refl _ _ | refine Only.drew ?_ | refine Only.alloc ?_ _))⟩
    have nb1 : (nu == 0) = false := by simpa using n1
    by_cases n3 : 65536 < tx.size
    · have n3I : (65536 : Int) < (tx.size : Int) := by omega
      have HF : Hid (pErr ⟨1, nm, nu, tx⟩ = 5) := Lib.hid (by unfold pErr; simp only []; rw [if_neg (by simp), if_neg (by rw [HNM.out]; simp), if_neg (by simp; omega), if_pos n3])
      clear n3
      go_enter Tryd.func36, Tryd.ntmps36
      go_wp2_with fail
      refine (isName_any _ _).mono ?_
      rw [HNM.out]
      rintro e w' ⟨rfl, rfl⟩
      go_wp2_with fail
      go_ret
      exact ⟨ret_int HF.out.symm, (by repeat (first | exact Only.refl _ _ | refine Only.drew ?_ | refine Only.alloc ?_ _))⟩
    have n3I : ¬ (65536 : Int) < (tx.size : Int) := by omega
    have HF : Hid (pErr ⟨1, nm, nu, tx⟩ = 0) := Lib.hid (by unfold pErr; simp only []; rw [if_neg (by simp), if_neg (by rw [HNM.out]; simp), if_neg (by simp; omega), if_neg n3, if_neg (by simp)])
    clear n3
    go_enter Tryd.func36, Tryd.ntmps36
    go_wp2_with fail
    refine (isName_any _ _).mono ?_
    rw [HNM.out]
    rintro e w' ⟨rfl, rfl⟩
    go_wp2_with fail
    go_ret
    exact ⟨ret_int HF.out.symm, (by repeat (first | exact Only.refl _ _ | refine Only.drew ?_ | refine Only.alloc ?_ _))⟩
set_option maxRecDepth 100000 in
set_option maxHeartbeats 4000000 in
theorem checked_2 (nm tx : ByteArray) (nu : Int) (w : World) : Calls Tryd.prog 36 #[.agg #[.int .i64 2, .string nm, .int .i64 nu, .string tx]] w (CheckPost ⟨2, nm, nu, tx⟩ w) := by
  cases hnm : nameB nm with
  | false =>
    have HNM := Lib.hid hnm
    have HF : Hid (pErr ⟨2, nm, nu, tx⟩ = 12) := Lib.hid (by unfold pErr; simp only []; rw [if_neg (by simp), if_pos HNM.out])
    clear hnm
    go_enter Tryd.func36, Tryd.ntmps36
    go_wp2_with fail
    refine (isName_any _ _).mono ?_
    rw [HNM.out]
    rintro e w' ⟨rfl, rfl⟩
    go_wp2_with fail
    go_ret
    exact ⟨ret_int HF.out.symm, (by repeat (first | exact Only.refl _ _ | refine Only.drew ?_ | refine Only.alloc ?_ _))⟩
  | true =>
    have HNM := Lib.hid hnm
    clear hnm
    by_cases n0 : nu < 0
    · skip
      have HF : Hid (pErr ⟨2, nm, nu, tx⟩ = 2) := Lib.hid (by unfold pErr; simp only []; rw [if_neg (by simp), if_neg (by rw [HNM.out]; simp), if_pos (.inl (by simp; omega))])
      go_enter Tryd.func36, Tryd.ntmps36
      go_wp2_with fail
      refine (isName_any _ _).mono ?_
      rw [HNM.out]
      rintro e w' ⟨rfl, rfl⟩
      go_wp2_with fail
      go_ret
      exact ⟨ret_int HF.out.symm, (by repeat (first | exact Only.refl _ _ | refine Only.drew ?_ | refine Only.alloc ?_ _))⟩
    by_cases n2 : 1099511627776 < nu
    · skip
      have HF : Hid (pErr ⟨2, nm, nu, tx⟩ = 2) := Lib.hid (by unfold pErr; simp only []; rw [if_neg (by simp), if_neg (by rw [HNM.out]; simp), if_pos (.inr n2)])
      go_enter Tryd.func36, Tryd.ntmps36
      go_wp2_with fail
      refine (isName_any _ _).mono ?_
      rw [HNM.out]
      rintro e w' ⟨rfl, rfl⟩
      go_wp2_with fail
      go_ret
      exact ⟨ret_int HF.out.symm, (by repeat (first | exact Only.refl _ _ | refine Only.drew ?_ | refine Only.alloc ?_ _))⟩
    by_cases n3 : 65536 < tx.size
    · have n3I : (65536 : Int) < (tx.size : Int) := by omega
      have HF : Hid (pErr ⟨2, nm, nu, tx⟩ = 5) := Lib.hid (by unfold pErr; simp only []; rw [if_neg (by simp), if_neg (by rw [HNM.out]; simp), if_neg (by simp; omega), if_pos n3])
      clear n3
      go_enter Tryd.func36, Tryd.ntmps36
      go_wp2_with fail
      refine (isName_any _ _).mono ?_
      rw [HNM.out]
      rintro e w' ⟨rfl, rfl⟩
      go_wp2_with fail
      go_ret
      exact ⟨ret_int HF.out.symm, (by repeat (first | exact Only.refl _ _ | refine Only.drew ?_ | refine Only.alloc ?_ _))⟩
    have n3I : ¬ (65536 : Int) < (tx.size : Int) := by omega
    by_cases n4 : tx.data.toList = []
    · have t2 : tx.toList = [] := by rw [toList_data]; exact n4
      have t1 : tx.toList.isEmpty = true := by rw [t2]; rfl
      have t3 : (tx.toList == []) = true := by rw [t2]; rfl
      have t4 : (tx.toList != []) = false := by rw [t2]; rfl
      have HF : Hid (pErr ⟨2, nm, nu, tx⟩ = 0) := Lib.hid (by unfold pErr; simp only []; rw [if_neg (by simp), if_neg (by rw [HNM.out]; simp), if_neg (by simp; omega), if_neg n3, if_neg (fun x => x.2 n4)])
      clear n3 n4
      go_enter Tryd.func36, Tryd.ntmps36
      go_wp2_with fail
      refine (isName_any _ _).mono ?_
      rw [HNM.out]
      rintro e w' ⟨rfl, rfl⟩
      go_wp2_with fail
      go_ret
      exact ⟨ret_int HF.out.symm, (by repeat (first | exact Only.refl _ _ | refine Only.drew ?_ | refine Only.alloc ?_ _))⟩
    · have t2 : ¬ tx.toList = [] := by rw [toList_data]; exact n4
      have t1 : tx.toList.isEmpty = false := by cases e : tx.toList with
        | nil => exact absurd e t2
        | cons a l => rfl
      have t3 : (tx.toList == []) = false := by simpa using t2
      have t4 : (tx.toList != []) = true := by simpa using t2
      have HF : Hid (pErr ⟨2, nm, nu, tx⟩ = 3) := Lib.hid (by unfold pErr; simp only []; rw [if_neg (by simp), if_neg (by rw [HNM.out]; simp), if_neg (by simp; omega), if_neg n3, if_pos ⟨by decide, n4⟩])
      clear n3 n4
      go_enter Tryd.func36, Tryd.ntmps36
      go_wp2_with fail
      refine (isName_any _ _).mono ?_
      rw [HNM.out]
      rintro e w' ⟨rfl, rfl⟩
      go_wp2_with fail
      go_ret
      exact ⟨ret_int HF.out.symm, (by repeat (first | exact Only.refl _ _ | refine Only.drew ?_ | refine Only.alloc ?_ _))⟩
set_option maxRecDepth 100000 in
set_option maxHeartbeats 4000000 in
theorem checked_other (kd : Int) (nm tx : ByteArray) (nu : Int) (w : World) (h1 : kd ≠ 1) (h2 : kd ≠ 2) : Calls Tryd.prog 36 #[.agg #[.int .i64 kd, .string nm, .int .i64 nu, .string tx]] w (CheckPost ⟨kd, nm, nu, tx⟩ w) := by
  have b1 : (kd != 1) = true := by simpa using h1
  have b2 : (kd != 2) = true := by simpa using h2
  have HF : Hid (pErr ⟨kd, nm, nu, tx⟩ = 11) := Lib.hid (by unfold pErr; simp only []; rw [if_pos (by omega)])
  clear h1 h2
  go_enter Tryd.func36, Tryd.ntmps36
  go_wp2_with fail
  go_ret
  exact ⟨ret_int HF.out.symm, (by repeat (first | exact Only.refl _ _ | refine Only.drew ?_ | refine Only.alloc ?_ _))⟩
theorem checked_any (p : Pkt) (w : World) : Calls Tryd.prog 36 #[.agg #[.int .i64 p.kind, .string p.name, .int .i64 p.num, .string p.text]] w fun e w' => e = .returned (.int .i64 (pErr p)) ∧ Only Nobody w w' := by
  obtain ⟨kd, nm, nu, tx⟩ := p
  by_cases h1 : kd = 1
  · subst h1; exact checked_1 nm tx nu w
  by_cases h2 : kd = 2
  · subst h2; exact checked_2 nm tx nu w
  exact checked_other kd nm tx nu w h1 h2

theorem nat_enc {p : Pkt} (h : pErr p = 0) : ∃ n : Nat, p.num = (n : Int) ∧ n ≤ 2000000000000 ∧ Lib.itoa p.num = Lib.decDigits n := by
  obtain ⟨_, _, _, h1, h2, _⟩ := pErr_zero h
  refine ⟨p.num.toNat, by omega, by omega, ?_⟩
  have e : p.num = ((p.num.toNat : Nat) : Int) := by omega
  rw [e]
  exact Lib.itoa_nonneg _
set_option maxRecDepth 100000 in
set_option maxHeartbeats 4000000 in
theorem encoded_1 (nm tx : ByteArray) (nu : Int) (w : World) (h : pErr ⟨1, nm, nu, tx⟩ = 0) : Calls Tryd.prog 38 #[.agg #[.int .i64 1, .string nm, .int .i64 nu, .string tx]] w fun e w' => e = .returned (.string (pEnc ⟨1, nm, nu, tx⟩)) ∧ Only Nobody w w' := by
  obtain ⟨n, hn, hn2, hit⟩ := nat_enc h
  obtain ⟨_, hnm, _, _, _, htx, _⟩ := pErr_zero h
  simp only at hn hit hnm htx
  subst hn
  have hns := (nameB_size hnm).2
  have hds := decS_size hn2
  obtain ⟨d, HD⟩ : ∃ d, Hid (decS n = d) := ⟨_, Lib.hid rfl⟩
  rw [HD.out] at hds
  have HE : Hid (((((⟨#[100, 97, 116, 97, 32]⟩ : ByteArray) ++ nm ++ ⟨#[32]⟩) ++ d) ++ ⟨#[10]⟩) ++ tx = pEnc ⟨1, nm, (n : Int), tx⟩) := Lib.hid (by
    unfold pEnc
    rw [if_pos h]
    apply str_ext
    unfold pL
    simp only []
    rw [if_neg (by decide), hit, ← HD.out]
    unfold decS
    simp)
  have HC := Lib.hid (pk_cells w ⟨1, nm, (n : Int), tx⟩)
  obtain ⟨c0, c1, c2, c3⟩ := HC.out _ (Only.refl _ _)
  simp only at c0 c1 c2 c3
  have HDN : Hid (∀ w, Calls Tryd.prog 46 #[.int .i64 (n : Int)] w fun e w' => e = .returned (.string d) ∧ Only Nobody w w') := Lib.hid fun w => by rw [← HD.out]; exact decimal_nat n hn2 w
  have z1 : ¬ 9223372036854775807 < 5 + nm.size := by omega
  have z2 : ¬ 9223372036854775807 < 5 + nm.size + 1 := by omega
  have z3 : ¬ 9223372036854775807 < 5 + nm.size + 1 + d.size := by omega
  have z4 : ¬ 9223372036854775807 < 5 + nm.size + 1 + d.size + 1 := by omega
  have z5 : ¬ 9223372036854775807 < 5 + nm.size + 1 + d.size + 1 + tx.size := by omega
  have HOA : Hid (Only Nobody w (w.alloc (.cells (pkC ⟨1, nm, (n : Int), tx⟩) 49))) := Lib.hid ((Only.refl _ _).alloc _)
  have HOX : Hid (Only Nobody (w.alloc (.cells (pkC ⟨1, nm, (n : Int), tx⟩) 49)) (w.alloc (.cells (pkC ⟨1, nm, (n : Int), tx⟩) 49))) := Lib.hid (Only.refl _ _)
  clear h hit hnm htx hns hds hn2
  go_enter Tryd.func38, Tryd.ntmps38
  go_wp2_with fail
  go_region_held3 (fun w' => w'.cell? ⟨w.heap.size, 1, none⟩ = some (.string nm) ∧ w'.cell? ⟨w.heap.size, 2, none⟩ = some (.int .i64 (n : Int)) ∧ w'.cell? ⟨w.heap.size, 3, none⟩ = some (.string tx)) (exact (HC.out _ (by repeat (first | exact HOX.out | refine Only.drew ?_))).2) (first
    | (go_at_call 46; refine (HDN.out _).mono ?_; rintro e w' ⟨rfl, ho'⟩; have HOX : Hid (Only Nobody (w.alloc (.cells (pkC ⟨1, nm, (n : Int), tx⟩) 49)) w') := Lib.hid (Only.trans (by repeat (first | exact HOX.out | refine Only.drew ?_)) ho'); clear ho'))
  all_goals
    go_wp2_with fail
    go_ret
    exact ⟨ret_str HE.out, HOA.out.trans (by repeat (first | exact HOX.out | refine Only.drew ?_))⟩
set_option maxRecDepth 100000 in
set_option maxHeartbeats 4000000 in
theorem encoded_2 (nm tx : ByteArray) (nu : Int) (w : World) (h : pErr ⟨2, nm, nu, tx⟩ = 0) : Calls Tryd.prog 38 #[.agg #[.int .i64 2, .string nm, .int .i64 nu, .string tx]] w fun e w' => e = .returned (.string (pEnc ⟨2, nm, nu, tx⟩)) ∧ Only Nobody w w' := by
  obtain ⟨n, hn, hn2, hit⟩ := nat_enc h
  obtain ⟨_, hnm, _, _, _, htx, _⟩ := pErr_zero h
  simp only at hn hit hnm htx
  subst hn
  have hns := (nameB_size hnm).2
  have hds := decS_size hn2
  obtain ⟨d, HD⟩ : ∃ d, Hid (decS n = d) := ⟨_, Lib.hid rfl⟩
  rw [HD.out] at hds
  have HE : Hid (((⟨#[97, 99, 107, 32]⟩ : ByteArray) ++ nm ++ ⟨#[32]⟩) ++ d = pEnc ⟨2, nm, (n : Int), tx⟩) := Lib.hid (by
    unfold pEnc
    rw [if_pos h]
    apply str_ext
    unfold pL
    simp only []
    rw [if_pos (by decide), hit, ← HD.out]
    unfold decS
    simp)
  have HC := Lib.hid (pk_cells w ⟨2, nm, (n : Int), tx⟩)
  obtain ⟨c0, c1, c2, c3⟩ := HC.out _ (Only.refl _ _)
  simp only at c0 c1 c2 c3
  have HDN : Hid (∀ w, Calls Tryd.prog 46 #[.int .i64 (n : Int)] w fun e w' => e = .returned (.string d) ∧ Only Nobody w w') := Lib.hid fun w => by rw [← HD.out]; exact decimal_nat n hn2 w
  have z1 : ¬ 9223372036854775807 < 4 + nm.size := by omega
  have z2 : ¬ 9223372036854775807 < 4 + nm.size + 1 := by omega
  have z3 : ¬ 9223372036854775807 < 4 + nm.size + 1 + d.size := by omega
  have HOA : Hid (Only Nobody w (w.alloc (.cells (pkC ⟨2, nm, (n : Int), tx⟩) 49))) := Lib.hid ((Only.refl _ _).alloc _)
  have HOX : Hid (Only Nobody (w.alloc (.cells (pkC ⟨2, nm, (n : Int), tx⟩) 49)) (w.alloc (.cells (pkC ⟨2, nm, (n : Int), tx⟩) 49))) := Lib.hid (Only.refl _ _)
  clear h hit hnm htx hns hds hn2
  go_enter Tryd.func38, Tryd.ntmps38
  go_wp2_with fail
  go_region_held3 (fun w' => w'.cell? ⟨w.heap.size, 1, none⟩ = some (.string nm) ∧ w'.cell? ⟨w.heap.size, 2, none⟩ = some (.int .i64 (n : Int)) ∧ w'.cell? ⟨w.heap.size, 3, none⟩ = some (.string tx)) (exact (HC.out _ (by repeat (first | exact HOX.out | refine Only.drew ?_))).2) (first
    | (go_at_call 46; refine (HDN.out _).mono ?_; rintro e w' ⟨rfl, ho'⟩; have HOX : Hid (Only Nobody (w.alloc (.cells (pkC ⟨2, nm, (n : Int), tx⟩) 49)) w') := Lib.hid (Only.trans (by repeat (first | exact HOX.out | refine Only.drew ?_)) ho'); clear ho'))
  all_goals
    go_wp2_with fail
    go_ret
    exact ⟨ret_str HE.out, HOA.out.trans (by repeat (first | exact HOX.out | refine Only.drew ?_))⟩
theorem encoded_any (p : Pkt) (w : World) (h : pErr p = 0) : Calls Tryd.prog 38 #[.agg #[.int .i64 p.kind, .string p.name, .int .i64 p.num, .string p.text]] w fun e w' => e = .returned (.string (pEnc p)) ∧ Only Nobody w w' := by
  obtain ⟨kd, nm, nu, tx⟩ := p
  rcases (pErr_zero h).1 with h1 | h1
  · simp only at h1; subst h1; exact encoded_1 nm tx nu w h
  · simp only at h1; subst h1; exact encoded_2 nm tx nu w h
end Go.Proofs.YthmndclmecnpmaaDoor
