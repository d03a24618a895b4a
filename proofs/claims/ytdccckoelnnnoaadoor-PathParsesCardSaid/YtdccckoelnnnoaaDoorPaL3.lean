/- Path: the law PathParses. -/
import Derived.Test.YtdccckoelnnnoaaDoorKnA
import Derived.Test.YtdccckoelnnnoaaDoorPaTp
import Derived.Test.YtdccckoelnnnoaaDoorPaRp
namespace Go.Proofs.YtdccckoelnnnoaaDoor
open Go.RowKit
attribute [local go_sem ↓] Go.wp_at_zero Go.wp_at_succ

theorem ext300 (s : ByteArray) : (s.extract 0 (min (s.size : Int) 300).toNat).size ≤ 100000 := by
  rw [ByteArray.size_extract]; omega
theorem parL_len (l : List UInt8) : (parL l).length ≤ 16 := by
  unfold parL
  split
  · simp
  split
  · simp
  split
  · simp
  · split
    · simp
    · omega
theorem pts_of {w : World} {base : Nat} {t : TypeId} {A : Option Addr} {n c : Nat} {L : List Pt} (h : w.ownsRow base t 3 (.slice A n c) n (ptVals L)) : Pts w A n L := Pts.of_own h
set_option maxRecDepth 100000 in
set_option maxHeartbeats 8000000 in
theorem lawParses (s : ByteArray) {w : World} (h : Std w) : Calls Tryd.prog 6 #[.string s] w fun e w' => e = .returned (.bool true) ∧ Only Nobody w w' := by
  have HS := Lib.hid h
  have HZ := Lib.hid (ext300 s)
  clear h
  go_enter Tryd.func6, Tryd.ntmps6
  go_wp2_with fail
  generalize s.extract 0 (min (s.size : Int) 300).toNat = t at HZ ⊢
  obtain ⟨L, HL⟩ : ∃ L, Hid (parL t.data.toList = L) := ⟨_, Lib.hid rfl⟩
  obtain ⟨er, HER⟩ : ∃ er, Hid (parE t.data.toList = er) := ⟨_, Lib.hid rfl⟩
  obtain ⟨n, HN⟩ : ∃ n, Hid (L.length = n) := ⟨_, Lib.hid rfl⟩
  have hn : n ≤ 1000 := by rw [← HN.out, ← HL.out]; have := parL_len t.data.toList; omega
  have HBK : Hid (er = 0 → okL L = true ∧ txtB L = t) := Lib.hid (by rw [← HL.out, ← HER.out]; exact parse_text)
  refine (parse_any t HZ.out w HS.out).mono ?_
  rw [HL.out, HER.out]
  rintro e w1 ⟨vo, rfl, hown, ho⟩
  rw [HN.out] at hown
  obtain ⟨A1, c1, rfl⟩ := own_form hown
  have HP1 : Hid (Pts w1 A1 n L) := Lib.hid (pts_of hown)
  have HO1 := Lib.hid ho
  clear hown ho
  go_wp2_with fail
  refine (rparse_any t HZ.out w1).mono ?_
  rw [HL.out, HER.out]
  rintro e w2 ⟨vo, rfl, hown, ho⟩
  rw [HN.out] at hown
  obtain ⟨A2, c2, rfl⟩ := own_form hown
  have HP2 : Hid (Pts w2 A2 n L) := Lib.hid (pts_of hown)
  have HQ2 := Lib.hid (HP1.out.same ho)
  have HO2 := Lib.hid (HO1.out.trans ho)
  clear hown ho
  go_wp2_with fail
  refine (known_any _ (HS.out.same HO2.out)).mono ?_
  rintro e w3 ⟨rfl, ho⟩
  have HP3 := Lib.hid (HP2.out.same ho)
  have HQ3 := Lib.hid (HQ2.out.same ho)
  have HO3 := Lib.hid (HO2.out.trans ho)
  clear ho
  have hee : (er != er) = false := by simp
  go_wp2_with fail
  refine (same_any A1 A2 n c1 n c2 L L _ hn HQ3.out HP3.out).mono ?_
  rw [decide_eq_true (rfl : L = L)]
  rintro e w4 ⟨rfl, ho⟩
  have HQ4 := Lib.hid (HQ3.out.same ho)
  have HO4 := Lib.hid (HO3.out.trans ho)
  clear ho
  go_wp2_with fail
  by_cases her : er = 0
  · subst her
    have HC : Hid (chkE L = 0) := Lib.hid (chkE_ok (HBK.out rfl).1)
    have HTB : Hid (txtB L = t) := Lib.hid (HBK.out rfl).2
    have htt : (t.toList == t.toList) = true := by simp
    refine (ptext_any A1 n c1 L _ HQ4.out (HS.out.same HO4.out).tab).mono ?_
    rw [HC.out, HTB.out]
    rintro e w5 ⟨rfl, ho⟩
    have HQ5 := Lib.hid (HQ4.out.same ho)
    have HO5 := Lib.hid (HO4.out.trans ho)
    clear ho
    go_wp2_with fail
    refine (check_any A1 n c1 L _ HQ5.out (HS.out.same HO5.out).tab).mono ?_
    rw [HC.out]
    rintro e w6 ⟨rfl, ho⟩
    have HO6 := Lib.hid (HO5.out.trans ho)
    clear ho
    go_wp2_with fail
    go_ret
    exact ⟨rfl, HO6.out⟩
  · have hne : (er != 0) = true := by simpa using her
    obtain ⟨T, HT⟩ : ∃ T, Hid (txtB L = T) := ⟨_, Lib.hid rfl⟩
    obtain ⟨ck, HCK⟩ : ∃ ck, Hid (chkE L = ck) := ⟨_, Lib.hid rfl⟩
    clear her
    refine (ptext_any A1 n c1 L _ HQ4.out (HS.out.same HO4.out).tab).mono ?_
    rw [HCK.out, HT.out]
    rintro e w5 ⟨rfl, ho⟩
    have HO5 := Lib.hid (HO4.out.trans ho)
    clear ho
    go_wp2_with fail
    go_ret
    exact ⟨rfl, HO5.out⟩
end Go.Proofs.YtdccckoelnnnoaaDoor
