/- Path: the law PathCovers. -/
import Derived.Test.YtdccckoelnnnoaaDoorKnA
namespace Go.Proofs.YtdccckoelnnnoaaDoor
open Go.RowKit
attribute [local go_sem ↓] Go.wp_at_zero Go.wp_at_succ

theorem covers_refl : ∀ l : List Pt, coversL l l = true
  | [] => rfl
  | x :: l => by
    have h : coverB x x = true := by simp [coverB]
    simp only [coversL, h, covers_refl l]
    rfl
theorem cover_trans {x y z : Pt} (h : coverB x y = true) (h2 : coverB y z = true) : coverB x z = true := by
  unfold coverB at *
  simp only [Bool.or_eq_true, Bool.and_eq_true, decide_eq_true_eq] at *
  rcases h with rfl | h
  · exact h2
  · rcases h2 with rfl | h2
    · exact .inr h
    · exfalso
      have h3 := h.2
      have h4 := h2.1.1.1
      omega
theorem covers_trans : ∀ a b c : List Pt, coversL a b = true → coversL b c = true → coversL a c = true
  | [], _, _, _, _ => rfl
  | _ :: _, [], _, h, _ => by cases h
  | _ :: _, _ :: _, [], _, h => by cases h
  | x :: a, y :: b, z :: c, h, h2 => by
    simp only [coversL, Bool.and_eq_true] at *
    exact ⟨cover_trans h.1 h2.1, covers_trans a b c h.2 h2.2⟩
set_option maxRecDepth 100000 in
set_option maxHeartbeats 8000000 in
theorem lawCovers (A B C : Option Addr) (n c m d k f : Nat) (L M N : List Pt) (w : World) (h : Std w) (ha : Pts w A n L) (hb : Pts w B m M) (hc : Pts w C k N) : Calls Tryd.prog 8 #[.slice A n c, .slice B m d, .slice C k f] w fun e w' => e = .returned (.bool true) ∧ Only Nobody w w' := by
  have HS := Lib.hid h
  have HA := Lib.hid ha
  have HB := Lib.hid hb
  have HC := Lib.hid hc
  clear h ha hb hc
  by_cases h1 : 20 < n
  · skip
    have hI : (20 : Int) < (n : Int) := by omega
    go_enter Tryd.func8, Tryd.ntmps8
    go_wp2_with fail
    refine (known_any _ HS.out).mono ?_
    rintro e w1 ⟨rfl, ho⟩
    have HO1 := Lib.hid ho
    clear ho
    go_wp2_with fail
    refine (known_any _ (HS.out.same HO1.out)).mono ?_
    rintro e w2 ⟨rfl, ho⟩
    have HO2 := Lib.hid (HO1.out.trans ho)
    clear ho
    go_wp2_with fail
    go_ret
    exact ⟨rfl, HO2.out⟩
  by_cases h2 : 20 < m
  · skip
    have gn : ¬ (20 : Int) < (n : Int) := by omega
    have hI : (20 : Int) < (m : Int) := by omega
    go_enter Tryd.func8, Tryd.ntmps8
    go_wp2_with fail
    refine (known_any _ HS.out).mono ?_
    rintro e w1 ⟨rfl, ho⟩
    have HO1 := Lib.hid ho
    clear ho
    go_wp2_with fail
    refine (known_any _ (HS.out.same HO1.out)).mono ?_
    rintro e w2 ⟨rfl, ho⟩
    have HO2 := Lib.hid (HO1.out.trans ho)
    clear ho
    go_wp2_with fail
    go_ret
    exact ⟨rfl, HO2.out⟩
  by_cases h3 : 20 < k
  · skip
    have gn : ¬ (20 : Int) < (n : Int) := by omega
    have gm : ¬ (20 : Int) < (m : Int) := by omega
    have hI : (20 : Int) < (k : Int) := by omega
    go_enter Tryd.func8, Tryd.ntmps8
    go_wp2_with fail
    refine (known_any _ HS.out).mono ?_
    rintro e w1 ⟨rfl, ho⟩
    have HO1 := Lib.hid ho
    clear ho
    go_wp2_with fail
    refine (known_any _ (HS.out.same HO1.out)).mono ?_
    rintro e w2 ⟨rfl, ho⟩
    have HO2 := Lib.hid (HO1.out.trans ho)
    clear ho
    go_wp2_with fail
    go_ret
    exact ⟨rfl, HO2.out⟩
  have hn0 : ¬ (20 : Int) < (n : Int) := by omega
  have hm0 : ¬ (20 : Int) < (m : Int) := by omega
  have hk0 : ¬ (20 : Int) < (k : Int) := by omega
  have hn : n ≤ 1000 := by omega
  have hm : m ≤ 1000 := by omega
  have hk : k ≤ 1000 := by omega
  have HOWN : Hid (∀ (X : Option Addr) (q r : Nat) (Z : List Pt) (w1 : World), q ≤ 1000 → Only Nobody w w1 → Pts w X q Z → Calls Tryd.prog 11 #[.slice X q r] w1 fun e w2 => ∃ Y s, e = .returned (.slice Y q s) ∧ Pts w2 Y q Z ∧ Only Nobody w1 w2 ∧ Only Nobody w w2) := Lib.hid fun X q r Z w1 hq ho hp => (own_any X q r Z hq w1 (hp.same ho)).mono (by
    rintro e w2 ⟨vo, rfl, hown, ho2⟩
    rw [hp.len] at hown
    obtain ⟨Y, s, rfl⟩ := own_form hown
    exact ⟨Y, s, rfl, Pts.of_own hown, ho2, ho.trans ho2⟩)
  obtain ⟨x, HX⟩ : ∃ x, Hid (coversL L M = x) := ⟨_, Lib.hid rfl⟩
  obtain ⟨y, HY⟩ : ∃ y, Hid (coversL M N = y) := ⟨_, Lib.hid rfl⟩
  obtain ⟨z, HZ⟩ : ∃ z, Hid (coversL L N = z) := ⟨_, Lib.hid rfl⟩
  have HTR : Hid (x = true → y = true → z = true) := Lib.hid (by rw [← HX.out, ← HY.out, ← HZ.out]; exact covers_trans L M N)
  clear h1 h2 h3
  go_enter Tryd.func8, Tryd.ntmps8
  go_wp2_with fail
  refine (known_any _ HS.out).mono ?_
  rintro e w1 ⟨rfl, ho⟩
  have HO1 := Lib.hid ho
  clear ho
  go_wp2_with fail
  refine (HOWN.out A n c L _ hn HO1.out HA.out).mono ?_
  rintro e w2 ⟨A2, s2, rfl, hp, ht, ho⟩
  have HT2 := Lib.hid ht
  have HP2 := Lib.hid hp
  have HO2 := Lib.hid ho
  clear hp ht ho
  go_wp2_with fail
  refine (HOWN.out B m d M _ hm HO2.out HB.out).mono ?_
  rintro e w3 ⟨A3, s3, rfl, hp, ht, ho⟩
  have HT3 := Lib.hid ht
  have HP3 := Lib.hid hp
  have HO3 := Lib.hid ho
  clear hp ht ho
  go_wp2_with fail
  refine (covers_any A2 A3 n s2 m s3 L M _ hn (HP2.out.same HT3.out) (HP3.out)).mono ?_
  rw [HX.out]
  rintro e w4 ⟨rfl, ho⟩
  have HO4 := Lib.hid (HO3.out.trans ho)
  clear ho
  go_wp2_with fail
  refine (HOWN.out B m d M _ hm HO4.out HB.out).mono ?_
  rintro e w5 ⟨A5, s5, rfl, hp, ht, ho⟩
  have HT5 := Lib.hid ht
  have HP5 := Lib.hid hp
  have HO5 := Lib.hid ho
  clear hp ht ho
  go_wp2_with fail
  refine (HOWN.out C k f N _ hk HO5.out HC.out).mono ?_
  rintro e w6 ⟨A6, s6, rfl, hp, ht, ho⟩
  have HT6 := Lib.hid ht
  have HP6 := Lib.hid hp
  have HO6 := Lib.hid ho
  clear hp ht ho
  go_wp2_with fail
  refine (covers_any A5 A6 m s5 k s6 M N _ hm (HP5.out.same HT6.out) (HP6.out)).mono ?_
  rw [HY.out]
  rintro e w7 ⟨rfl, ho⟩
  have HO7 := Lib.hid (HO6.out.trans ho)
  clear ho
  go_wp2_with fail
  refine (HOWN.out A n c L _ hn HO7.out HA.out).mono ?_
  rintro e w8 ⟨A8, s8, rfl, hp, ht, ho⟩
  have HT8 := Lib.hid ht
  have HP8 := Lib.hid hp
  have HO8 := Lib.hid ho
  clear hp ht ho
  go_wp2_with fail
  refine (HOWN.out C k f N _ hk HO8.out HC.out).mono ?_
  rintro e w9 ⟨A9, s9, rfl, hp, ht, ho⟩
  have HT9 := Lib.hid ht
  have HP9 := Lib.hid hp
  have HO9 := Lib.hid ho
  clear hp ht ho
  go_wp2_with fail
  refine (covers_any A8 A9 n s8 k s9 L N _ hn (HP8.out.same HT9.out) (HP9.out)).mono ?_
  rw [HZ.out]
  rintro e w10 ⟨rfl, ho⟩
  have HO10 := Lib.hid (HO9.out.trans ho)
  clear ho
  go_wp2_with fail
  refine (rcovers_any A B n c m d L M _ hn (HA.out.same HO10.out) (HB.out.same HO10.out)).mono ?_
  rw [HX.out]
  rintro e w11 ⟨rfl, ho⟩
  have HO11 := Lib.hid (HO10.out.trans ho)
  clear ho
  go_wp2_with fail
  refine (rcovers_any B C m d k f M N _ hm (HB.out.same HO11.out) (HC.out.same HO11.out)).mono ?_
  rw [HY.out]
  rintro e w12 ⟨rfl, ho⟩
  have HO12 := Lib.hid (HO11.out.trans ho)
  clear ho
  go_wp2_with fail
  refine (HOWN.out A n c L _ hn HO12.out HA.out).mono ?_
  rintro e w13 ⟨A13, s13, rfl, hp, ht, ho⟩
  have HT13 := Lib.hid ht
  have HP13 := Lib.hid hp
  have HO13 := Lib.hid ho
  clear hp ht ho
  go_wp2_with fail
  refine (HOWN.out A n c L _ hn HO13.out HA.out).mono ?_
  rintro e w14 ⟨A14, s14, rfl, hp, ht, ho⟩
  have HT14 := Lib.hid ht
  have HP14 := Lib.hid hp
  have HO14 := Lib.hid ho
  clear hp ht ho
  go_wp2_with fail
  refine (covers_any A13 A14 n s13 n s14 L L _ hn (HP13.out.same HT14.out) (HP14.out)).mono ?_
  rw [covers_refl]
  rintro e w15 ⟨rfl, ho⟩
  have HO15 := Lib.hid (HO14.out.trans ho)
  clear ho
  cases x <;> cases y <;> cases z
  case true.true.false => exact absurd (HTR.out rfl rfl) (by decide)
  all_goals
    go_wp2_with fail
    go_ret
    exact ⟨rfl, HO15.out⟩
theorem lawCoversW (A : Option Addr) (n c : Nat) (L : List Pt) {w : World} (ha : Pts w A n L) (B : Option Addr) (m d : Nat) (M : List Pt) (hb : Pts w B m M) (C : Option Addr) (k f : Nat) (N : List Pt) (hc : Pts w C k N) (h : Std w) : Calls Tryd.prog 8 #[.slice A n c, .slice B m d, .slice C k f] w fun e w' => e = .returned (.bool true) ∧ Only Nobody w w' := by
  exact lawCovers A B C n c m d k f L M N _ h ha hb hc
end Go.Proofs.YtdccckoelnnnoaaDoor
