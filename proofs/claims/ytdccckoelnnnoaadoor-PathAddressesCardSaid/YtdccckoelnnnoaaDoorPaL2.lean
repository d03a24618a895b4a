/- Path: the law PathTexts. -/
import Derived.Test.YtdccckoelnnnoaaDoorKnA
import Derived.Test.YtdccckoelnnnoaaDoorPaTp
namespace Go.Proofs.YtdccckoelnnnoaaDoor
open Go.RowKit
attribute [local go_sem ↓] Go.wp_at_zero Go.wp_at_succ

def OwnPts (q : Nat) (Z : List Pt) (w1 : World) (e : Ending) (w2 : World) : Prop := ∃ Y s, e = .returned (.slice Y q s) ∧ Pts w2 Y q Z ∧ Only Nobody w1 w2
theorem own_pts (X : Option Addr) (q r : Nat) (Z : List Pt) (w1 : World) (hq : q ≤ 1000) (hp : Pts w1 X q Z) : Calls Tryd.prog 11 #[.slice X q r] w1 (OwnPts q Z w1) := (own_any X q r Z hq w1 hp).mono (by
    rintro e w2 ⟨vo, rfl, hown, ho2⟩
    rw [hp.len] at hown
    obtain ⟨Y, s, rfl⟩ := own_form hown
    exact ⟨Y, s, rfl, Pts.of_own hown, ho2⟩)
theorem txtB_no {L : List Pt} (h : ¬ okL L = true) : txtB L = ⟨#[]⟩ := by unfold txtB; rw [if_neg h]
set_option maxRecDepth 100000 in
set_option maxHeartbeats 8000000 in
theorem lawTexts (A : Option Addr) (n c : Nat) (L : List Pt) {w : World} (ha : Pts w A n L) (h : Std w) : Calls Tryd.prog 7 #[.slice A n c] w fun e w' => e = .returned (.bool true) ∧ Only Nobody w w' := by
  have HS := Lib.hid h
  have HA := Lib.hid ha
  clear h ha
  by_cases h1 : 20 < n
  · have hI : (20 : Int) < (n : Int) := by omega
    go_enter Tryd.func7, Tryd.ntmps7
    go_wp2_with fail
    refine (known_any _ HS.out).mono ?_
    rintro e w1 ⟨rfl, ho⟩
    have HO1 := Lib.hid ho
    clear ho
    go_wp2_with fail
    refine (known_any _ (HS.out.same HO1.out)).mono ?_
    rintro e w2 ⟨rfl, ho⟩
    have HO2 := Lib.hid (HO1.out.trans ho)
    clear ho
    go_wp2_with fail
    go_ret
    exact ⟨rfl, HO2.out⟩
  have hn0 : ¬ (20 : Int) < (n : Int) := by omega
  have hn : n ≤ 1000 := by omega
  clear h1
  by_cases hok : okL L = true
  · have HOK := Lib.hid hok
    have HC : Hid (chkE L = 0) := Lib.hid (chkE_ok hok)
    obtain ⟨T, HT⟩ : ∃ T, Hid (txtB L = T) := ⟨_, Lib.hid rfl⟩
    have HTB : Hid (parL T.data.toList = L ∧ parE T.data.toList = 0) := Lib.hid (by rw [← HT.out]; exact text_back hok)
    have HTZ : Hid (T.size ≤ 100000) := Lib.hid (by
      have hl := (okL_parts hok).2.2.2.1
      have hc := txtB_cons hok
      rw [HT.out] at hc
      have : T.size + 1 = (txL L).length := by rw [← hc, List.length_cons, size_len]
      omega)
    have hTT : (T.toList == T.toList) = true := by simp
    clear hok
    go_enter Tryd.func7, Tryd.ntmps7
    go_wp2_with fail
    refine (known_any _ HS.out).mono ?_
    rintro e w1 ⟨rfl, ho⟩
    have HO1 := Lib.hid ho
    clear ho
    go_wp2_with fail
    refine (own_pts A n c L _ hn (HA.out.same HO1.out)).mono ?_
    rintro e w2 ⟨A2, s2, rfl, hp, ho⟩
    have HP2 := Lib.hid hp
    have HO2 := Lib.hid (HO1.out.trans ho)
    clear hp ho
    go_wp2_with fail
    refine (ptext_any A2 n s2 L _ HP2.out (HS.out.same HO2.out).tab).mono ?_
    rw [HT.out, HC.out]
    rintro e w3 ⟨rfl, ho⟩
    have HO3 := Lib.hid (HO2.out.trans ho)
    clear ho
    go_wp2_with fail
    refine (rtxt_any A n c L _ (HA.out.same HO3.out)).mono ?_
    rintro e w4 ⟨sr, rfl, hsr, ho⟩
    have HSR := Lib.hid (hsr HOK.out)
    rw [HOK.out]
    rw [HT.out] at HSR
    have HO4 := Lib.hid (HO3.out.trans ho)
    obtain rfl := HSR.out
    clear ho hsr HSR
    go_wp2_with fail
    refine (parse_any sr HTZ.out _ (HS.out.same HO4.out)).mono ?_
    rw [HTB.out.1, HTB.out.2]
    rintro e w5 ⟨vo, rfl, hown, ho⟩
    rw [HA.out.len] at hown
    obtain ⟨A5, s5, rfl⟩ := own_form hown
    have HP5 : Hid (Pts w5 A5 n L) := Lib.hid (Pts.of_own hown)
    have HO5 := Lib.hid (HO4.out.trans ho)
    clear hown ho
    go_wp2_with fail
    refine (own_pts A n c L _ hn (HA.out.same HO5.out)).mono ?_
    rintro e w6 ⟨A6, s6, rfl, hp, ho⟩
    have HP6 := Lib.hid hp
    have HO6 := Lib.hid (HO5.out.trans ho)
    have HQ6 := Lib.hid (HP5.out.same ho)
    clear hp ho
    go_wp2_with fail
    refine (check_any A6 n s6 L _ HP6.out (HS.out.same HO6.out).tab).mono ?_
    rw [HC.out]
    rintro e w7 ⟨rfl, ho⟩
    have HO7 := Lib.hid (HO6.out.trans ho)
    have HQ7 := Lib.hid (HQ6.out.same ho)
    clear ho
    go_wp2_with fail
    refine (same_any A5 A n s5 n c L L _ hn HQ7.out (HA.out.same HO7.out)).mono ?_
    rw [decide_eq_true (rfl : L = L)]
    rintro e w8 ⟨rfl, ho⟩
    have HO8 := Lib.hid (HO7.out.trans ho)
    clear ho
    go_wp2_with fail
    go_ret
    exact ⟨rfl, HO8.out⟩
  · have HOK : Hid (okL L = false) := Lib.hid (by simpa using hok)
    have HC : Hid (chkE L = 3) := Lib.hid (chkE_no hok)
    have HT : Hid (txtB L = ⟨#[]⟩) := Lib.hid (txtB_no hok)
    clear hok
    go_enter Tryd.func7, Tryd.ntmps7
    go_wp2_with fail
    refine (known_any _ HS.out).mono ?_
    rintro e w1 ⟨rfl, ho⟩
    have HO1 := Lib.hid ho
    clear ho
    go_wp2_with fail
    refine (own_pts A n c L _ hn (HA.out.same HO1.out)).mono ?_
    rintro e w2 ⟨A2, s2, rfl, hp, ho⟩
    have HP2 := Lib.hid hp
    have HO2 := Lib.hid (HO1.out.trans ho)
    clear hp ho
    go_wp2_with fail
    refine (ptext_any A2 n s2 L _ HP2.out (HS.out.same HO2.out).tab).mono ?_
    rw [HT.out, HC.out]
    rintro e w3 ⟨rfl, ho⟩
    have HO3 := Lib.hid (HO2.out.trans ho)
    clear ho
    go_wp2_with fail
    refine (rtxt_any A n c L _ (HA.out.same HO3.out)).mono ?_
    rintro e w4 ⟨sr, rfl, _, ho⟩
    rw [HOK.out]
    have HO4 := Lib.hid (HO3.out.trans ho)
    clear ho
    go_wp2_with fail
    refine (own_pts A n c L _ hn (HA.out.same HO4.out)).mono ?_
    rintro e w6 ⟨A6, s6, rfl, hp, ho⟩
    have HP6 := Lib.hid hp
    have HO6 := Lib.hid (HO4.out.trans ho)
    clear hp ho
    go_wp2_with fail
    refine (check_any A6 n s6 L _ HP6.out (HS.out.same HO6.out).tab).mono ?_
    rw [HC.out]
    rintro e w7 ⟨rfl, ho⟩
    have HO7 := Lib.hid (HO6.out.trans ho)
    clear ho
    go_wp2_with fail
    go_ret
    exact ⟨rfl, HO7.out⟩
end Go.Proofs.YtdccckoelnnnoaaDoor
