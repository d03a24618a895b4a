/- Path: the reference's word: the end of a name. -/
import Derived.Test.YtdccckoelnnnoaaDoorPaX
namespace Go.Proofs.YtdccckoelnnnoaaDoor
open Go.RowKit
attribute [local go_sem ↓] Go.wp_at_zero Go.wp_at_succ

/-- Whether a byte goes on with a name that begins at an index. -/
def goesOn (s : ByteArray) (a e : Nat) : Bool := if h : e < s.size then isLow s[e] || (decide (a < e) && okCh s[e]) else false
/-- The end of the longest run of a name's letters from an index on. -/
def runEnd (s : ByteArray) (a : Nat) : Nat → Nat → Nat
  | 0, e => e
  | f + 1, e => if goesOn s a e = true then runEnd s a f (e + 1) else e
def wordEnd (s : ByteArray) (a : Nat) : Nat := let e := runEnd s a (s.size - a) a; if 32 < e - a then a else e
theorem runEnd_le (s : ByteArray) (a : Nat) : ∀ f e, e ≤ s.size → e ≤ runEnd s a f e ∧ runEnd s a f e ≤ s.size
  | 0, e, h => ⟨Nat.le_refl _, h⟩
  | f + 1, e, h => by
    unfold runEnd
    by_cases hg : goesOn s a e = true
    · rw [if_pos hg]
      have he : e < s.size := by
        unfold goesOn at hg
        by_cases h2 : e < s.size
        · exact h2
        · rw [dif_neg h2] at hg; cases hg
      have := runEnd_le s a f (e + 1) he
      omega
    · rw [if_neg hg]
      exact ⟨Nat.le_refl _, h⟩
theorem runEnd_go {s : ByteArray} {a f e : Nat} (h : goesOn s a e = true) : runEnd s a (f + 1) e = runEnd s a f (e + 1) := by
  rw [runEnd, if_pos h]
theorem runEnd_stop {s : ByteArray} {a f e : Nat} (h : goesOn s a e = false) : runEnd s a f e = e := by
  cases f with
  | zero => rfl
  | succ f => rw [runEnd, if_neg (by rw [h]; decide)]
theorem goesOn_of {s : ByteArray} {a e c : Nat} (h : e < s.size) (hc : s[e].toNat = c) : goesOn s a e = ((decide (97 ≤ c) && decide (c ≤ 122)) || (decide (a < e) && ((decide (97 ≤ c) && decide (c ≤ 122)) || decide (c = 95) || (decide (48 ≤ c) && decide (c ≤ 57))))) := by
  unfold goesOn
  rw [dif_pos h, okCh_of hc, isLow_of hc]
theorem goesOn_end {s : ByteArray} {a e : Nat} (h : s.size ≤ e) : goesOn s a e = false := by
  unfold goesOn
  rw [dif_neg (by omega)]

/-! The walk. (printed by gen_paw.py) -/
set_option maxRecDepth 100000 in
set_option maxHeartbeats 8000000 in
theorem word_any (s : ByteArray) (a : Nat) (hs : s.size ≤ 1000) (ha : a ≤ s.size) (w : World) : Calls Tryd.prog 45 #[.string s, .int .i64 (a : Int)] w fun e w' => e = .returned (.int .i64 (wordEnd s a : Int)) ∧ w = w' := by
  obtain ⟨E, HE⟩ : ∃ E, Hid (runEnd s a (s.size - a) a = E) := ⟨_, Lib.hid rfl⟩
  have HW1 : Hid (32 < E - a → ((a : Nat) : Int) = (wordEnd s a : Int)) := Lib.hid fun h => by
    unfold wordEnd
    rw [HE.out]
    simp [h]
  have HW2 : Hid (¬ 32 < E - a → (E : Int) = (wordEnd s a : Int)) := Lib.hid fun h => by
    unfold wordEnd
    rw [HE.out]
    simp [h]
  have ha0 : (0 : Int) ≤ (a : Int) := by omega
  go_enter Tryd.func45, Tryd.ntmps45
  go_wp2_with fail
  go_loop [5] (fun i => ∃ e : Nat, i = .int .i64 (e : Int) ∧ a ≤ e ∧ e ≤ s.size ∧ Hid (runEnd s a (s.size - e) e = E)) (fun i => s.size - (intOf i).toNat)
  case atStart => exact ⟨a, rfl, Nat.le_refl _, ha, HE⟩
  case round =>
    obtain ⟨e, rfl, hae, hes, HR⟩ := hrel
    have he0 : (0 : Int) ≤ (e : Int) := by omega
    have HSTOP : Hid (goesOn s a e = false → e = E) := Lib.hid fun h => by rw [← HR.out, runEnd_stop h]
    by_cases hem : e < s.size
    · have heI : (e : Int) < (s.size : Int) := by omega
      obtain ⟨c, HCC⟩ : ∃ c : Nat, Hid (s[e].toNat = c) := ⟨_, Lib.hid rfl⟩
      have hcc : (s[e].toNat : Int) = (c : Int) := by rw [HCC.out]
      have hc256 : (c : Int) < 256 := by rw [← hcc]; have := (s[e]).toNat_lt; omega
      have hc0 : (0 : Int) ≤ (c : Int) := by omega
      have HGO := Lib.hid (goesOn_of (a := a) hem HCC.out)
      have HNEXT : Hid (goesOn s a e = true → Hid (runEnd s a (s.size - (e + 1)) (e + 1) = E)) := Lib.hid fun h => Lib.hid (by
        have := HR.out
        rw [show s.size - e = (s.size - (e + 1)) + 1 by omega, runEnd_go h] at this
        exact this)
      by_cases hl : 97 ≤ c ∧ c ≤ 122
      · have l1 : (97 : Int) ≤ (c : Int) := by omega
        have l2 : (c : Int) ≤ 122 := by omega
        have HX := HNEXT.out (HGO.out.trans (by rw [decide_eq_true hl.1, decide_eq_true hl.2]; rfl))
        go_wp2_with fail
        go_round
        case rel => exact ⟨e + 1, by go_num, by omega, by omega, HX⟩
        case measure => simp [intOf]; omega
      by_cases hgt : a < e
      case neg =>
        have hgI : ¬ (a : Int) < (e : Int) := by omega
        have hgd := decide_eq_false hgt
        by_cases hx : 97 ≤ c
        · have l1 : (97 : Int) ≤ (c : Int) := by omega
          have l2 : ¬ (c : Int) ≤ 122 := by omega
          have HX := HSTOP.out (HGO.out.trans (by rw [hgd, decide_eq_false (show ¬ c ≤ 122 by omega)]; simp))
          by_cases h32 : 32 < e - a
          · have HF := Lib.hid (HW1.out (by rw [← HX]; exact h32))
            have h32I : (32 : Int) < (e : Int) - (a : Int) := by omega
            clear HX h32
            go_wp2_with fail
            go_ret
            exact ⟨ret_int' HF.out, rfl⟩
          · have HF := Lib.hid (HW2.out (by rw [← HX]; exact h32))
            have h32I : ¬ (32 : Int) < (e : Int) - (a : Int) := by omega
            have HXX := Lib.hid HX
            clear HX h32
            go_wp2_with fail
            go_ret
            exact ⟨ret_int' (by rw [HXX.out]; exact HF.out), rfl⟩
        · have l1 : ¬ (97 : Int) ≤ (c : Int) := by omega
          have HX := HSTOP.out (HGO.out.trans (by rw [hgd, decide_eq_false hx]; simp))
          by_cases h32 : 32 < e - a
          · have HF := Lib.hid (HW1.out (by rw [← HX]; exact h32))
            have h32I : (32 : Int) < (e : Int) - (a : Int) := by omega
            clear HX h32
            go_wp2_with fail
            go_ret
            exact ⟨ret_int' HF.out, rfl⟩
          · have HF := Lib.hid (HW2.out (by rw [← HX]; exact h32))
            have h32I : ¬ (32 : Int) < (e : Int) - (a : Int) := by omega
            have HXX := Lib.hid HX
            clear HX h32
            go_wp2_with fail
            go_ret
            exact ⟨ret_int' (by rw [HXX.out]; exact HF.out), rfl⟩
      have hgI : (a : Int) < (e : Int) := by omega
      by_cases g0 : 122 < c
      · skip
        have l0 : (97 : Int) ≤ (c : Int) := by omega
        have l1 : ¬ (c : Int) ≤ 122 := by omega
        have l2 : (48 : Int) ≤ (c : Int) := by omega
        have l3 : ¬ (c : Int) ≤ 57 := by omega
        have l4 : ((c : Int) == 95) = false := by simp; omega
        have HX := HSTOP.out (HGO.out.trans (by rw [decide_eq_false (show ¬ c ≤ 122 by omega), decide_eq_false (show ¬ c = 95 by omega), decide_eq_false (show ¬ c ≤ 57 by omega)]; simp))
        by_cases h32 : 32 < e - a
        · have HF := Lib.hid (HW1.out (by rw [← HX]; exact h32))
          have h32I : (32 : Int) < (e : Int) - (a : Int) := by omega
          clear HX h32
          go_wp2_with fail
          go_ret
          exact ⟨ret_int' HF.out, rfl⟩
        · have HF := Lib.hid (HW2.out (by rw [← HX]; exact h32))
          have h32I : ¬ (32 : Int) < (e : Int) - (a : Int) := by omega
          have HXX := Lib.hid HX
          clear HX h32
          go_wp2_with fail
          go_ret
          exact ⟨ret_int' (by rw [HXX.out]; exact HF.out), rfl⟩
      by_cases g1 : c < 48
      · skip
        have l0 : ¬ (97 : Int) ≤ (c : Int) := by omega
        have l1 : ¬ (48 : Int) ≤ (c : Int) := by omega
        have l2 : ((c : Int) == 95) = false := by simp; omega
        have HX := HSTOP.out (HGO.out.trans (by rw [decide_eq_false (show ¬ 97 ≤ c by omega), decide_eq_false (show ¬ c = 95 by omega), decide_eq_false (show ¬ 48 ≤ c by omega)]; simp))
        by_cases h32 : 32 < e - a
        · have HF := Lib.hid (HW1.out (by rw [← HX]; exact h32))
          have h32I : (32 : Int) < (e : Int) - (a : Int) := by omega
          clear HX h32
          go_wp2_with fail
          go_ret
          exact ⟨ret_int' HF.out, rfl⟩
        · have HF := Lib.hid (HW2.out (by rw [← HX]; exact h32))
          have h32I : ¬ (32 : Int) < (e : Int) - (a : Int) := by omega
          have HXX := Lib.hid HX
          clear HX h32
          go_wp2_with fail
          go_ret
          exact ⟨ret_int' (by rw [HXX.out]; exact HF.out), rfl⟩
      by_cases g2 : c ≤ 57
      · skip
        have l0 : ¬ (97 : Int) ≤ (c : Int) := by omega
        have l1 : (48 : Int) ≤ (c : Int) := by omega
        have l2 : (c : Int) ≤ 57 := by omega
        have HX := HNEXT.out (HGO.out.trans (by rw [decide_eq_true (show 48 ≤ c by omega), decide_eq_true (show c ≤ 57 by omega), decide_eq_true hgt]; simp))
        go_wp2_with fail
        go_round
        case rel => exact ⟨e + 1, by go_num, by omega, by omega, HX⟩
        case measure => simp [intOf]; omega
      by_cases g3 : c = 95
      · skip
        have l0 : ¬ (97 : Int) ≤ (c : Int) := by omega
        have l1 : (48 : Int) ≤ (c : Int) := by omega
        have l2 : ¬ (c : Int) ≤ 57 := by omega
        have l3 : ((c : Int) == 95) = true := by simp; omega
        have HX := HNEXT.out (HGO.out.trans (by rw [decide_eq_true (show c = 95 by omega), decide_eq_true hgt]; simp))
        go_wp2_with fail
        go_round
        case rel => exact ⟨e + 1, by go_num, by omega, by omega, HX⟩
        case measure => simp [intOf]; omega
      have l0 : ¬ (97 : Int) ≤ (c : Int) := by omega
      have l1 : (48 : Int) ≤ (c : Int) := by omega
      have l2 : ¬ (c : Int) ≤ 57 := by omega
      have l3 : ((c : Int) == 95) = false := by simp; omega
      have HX := HSTOP.out (HGO.out.trans (by rw [decide_eq_false (show ¬ 97 ≤ c by omega), decide_eq_false (show ¬ c = 95 by omega), decide_eq_false (show ¬ c ≤ 57 by omega)]; simp))
      by_cases h32 : 32 < e - a
      · have HF := Lib.hid (HW1.out (by rw [← HX]; exact h32))
        have h32I : (32 : Int) < (e : Int) - (a : Int) := by omega
        clear HX h32
        go_wp2_with fail
        go_ret
        exact ⟨ret_int' HF.out, rfl⟩
      · have HF := Lib.hid (HW2.out (by rw [← HX]; exact h32))
        have h32I : ¬ (32 : Int) < (e : Int) - (a : Int) := by omega
        have HXX := Lib.hid HX
        clear HX h32
        go_wp2_with fail
        go_ret
        exact ⟨ret_int' (by rw [HXX.out]; exact HF.out), rfl⟩
    · obtain rfl : e = s.size := by omega
      have HX := HSTOP.out (goesOn_end (Nat.le_refl _))
      by_cases h32 : 32 < s.size - a
      · have HF := Lib.hid (HW1.out (by rw [← HX]; exact h32))
        have h32I : (32 : Int) < (s.size : Int) - (a : Int) := by omega
        clear HX h32
        go_wp2_with fail
        go_ret
        exact ⟨ret_int' HF.out, rfl⟩
      · have HF := Lib.hid (HW2.out (by rw [← HX]; exact h32))
        have h32I : ¬ (32 : Int) < (s.size : Int) - (a : Int) := by omega
        have HXX := Lib.hid HX
        clear HX h32
        go_wp2_with fail
        go_ret
        exact ⟨ret_int' (by rw [HXX.out]; exact HF.out), rfl⟩
end Go.Proofs.YtdccckoelnnnoaaDoor
