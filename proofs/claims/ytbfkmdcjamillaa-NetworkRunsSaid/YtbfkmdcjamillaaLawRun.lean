/- The walk of the law NetworkRuns. -/
import Derived.Test.YtbfkmdcjamillaaLkH
namespace Go.Proofs.Ytbfkmdcjamillaa
open Go.RowKit Go.Maps
attribute [local go_sem ↓] Go.wp_at_zero Go.wp_at_succ

set_option maxRecDepth 100000 in
set_option maxHeartbeats 4000000 in
theorem lawRun (w : World) (A0 : Option Addr) (n0 c0 : Nat) (X0 : List UInt8) (HX0 : Given w 1 A0 n0 c0 (byteVals' X0)) (A : Option Addr) (n c : Nat) (X : List Op4) (HX : Given w 4 A n c (opVals X)) (HN : X.length = n) :
    Calls Try.prog 9 #[.slice A0 n0 c0, .slice A n c] w fun e w' => e = .returned (.bool true) ∧ Below w.heap.size w w' := by
  have hnc := HX.le
  have hmx := HX.mx
  have HXX := Lib.hid HX
  have HXS := Lib.hid HX0
  have HSL : Hid (X0.length ≤ 1000000000000000) := Lib.hid (by have := given_len HX0; have := HX0.rch; have := reachBytes_lt; omega)
  have HS0 : Hid (X0.length = n0) := Lib.hid (given_len HX0)
  have HB0 : Hid (0 + n0 ≤ maxLen ∧ (0 + n0) * 1 ≤ 140737488355328) := Lib.hid ⟨by have := HX0.le; have := HX0.mx; omega, by have := HX0.rch; have := reachBytes_lt; omega⟩
  clear HX HX0
  go_enter Try.func9, Try.ntmps9
  go_wp2_with fail
  have hm1 : (min (n : Int) 80).toNat = min n 80 := by omega
  have hm2 : min (n : Int) 80 = ((min n 80 : Nat) : Int) := by omega
  rw [hm1, hm2]
  obtain ⟨L, hLX⟩ : ∃ L, Hid (L = X.take (min n 80)) := ⟨_, Lib.hid rfl⟩
  have hLm : L.length = min n 80 := by rw [hLX.out, List.length_take, HN]; omega
  have hm40 : min n 80 ≤ 80 := by omega
  have hmc : min n 80 ≤ c := by omega
  clear hm1 hm2
  generalize min n 80 = m at hLX hLm hm40 hmc ⊢
  have HLM := Lib.hid hLm
  clear hLm
  refine (new_given HXS.out (Below.refl _ w)).mono ?_
  rintro e w1 ⟨N, F1, rfl, hn1, ho1, hf1⟩
  have HN1 := Lib.hid hn1
  clear hf1
  obtain ⟨i0, hi0, hz0, hz1, hz2⟩ := info_parts infoU8
  have HW2 : Hid ((w1.alloc (.cells #[] 5)).ownsRow w1.heap.size 5 1 (.slice (some ⟨w1.heap.size, 0, none⟩) 0 0) 0 []) := Lib.hid (World.ownsRow_made (base := w1.heap.size) (e := 5) (size := 1) w1 #[] 0 (Nat.le_refl _) (Nat.zero_le _) rfl)
  have HR : Hid (Reads (w1.alloc (.cells #[] 5)) w.heap.size 1 A0 n0 (byteVals X0)) := Lib.hid (HXS.out.rd.below (hn1.bel.trans ((Below.refl _ _).alloc hn1.bel.size _)))
  have HU : Hid (∀ u ∈ byteVals X0, u.oneCell' = true) := Lib.hid (by intro u hu; obtain ⟨x, _, rfl⟩ := List.mem_map.1 hu; rfl)
  have HSZ : Hid (w1.heap.size ≤ (w1.alloc (.cells #[] 5)).heap.size) := Lib.hid (by simp)
  clear hn1 ho1
  go_wp2_with (at_builtin
               refine wpList_append_any _ rfl (.tmp 15) (.tmp 16) _ rfl w1.heap.size 5 i0 _ 1 1 Try.underlying26 hi0 hz0 hz1 hz2 rfl (by omega) (.slice (some ⟨w1.heap.size, 0, none⟩) 0 0) 0 [] rfl HW2.out _ A0 n0 c0 (byteVals X0) rfl HR.out HU.out HB0.out.1 HB0.out.2 HSZ.out ?_
               intro v2 w2 hown2 hg2 hat2
               obtain ⟨A2, c2, rfl⟩ := own_form hown2
               have HO2 := Lib.hid hown2
               have HG2 := Lib.hid hg2
               clear hown2 hg2 hat2)
  have HP2 : Hid (PQ w (w2.alloc (.cells #[.slice A2 n0 c2, .int .i64 0, .int .i64 0, .int .i64 0, .slice none 0 0, .slice none 0 0] 49)) (fun _ => False) N (newNet X0) w2.heap.size ⟨X0, 0, 0, 0, [], []⟩) := Lib.hid (pq_start HN1.out HG2.out (by
    have := HO2.out
    rw [Nat.zero_add, List.nil_append] at this
    rw [HS0.out]
    exact this))
  obtain ⟨M, HM⟩ : ∃ M, Hid (M = w2.heap.size) := ⟨_, Lib.hid rfl⟩
  rw [← HM.out] at HP2 ⊢
  have hpn := ptr_nil
  refine (known_any _).mono ?_
  rintro e w3 ⟨rfl, hb3⟩
  have HP3 := Lib.hid (HP2.out.same (Only.of_below hb3 Nobody))
  clear hb3
  go_wp2_with fail
  go_loopw [7] (fun i wr => ∃ (j : Nat) (S : NetS) (P : List Pc) (K : LinkS), i = .int .i64 (j : Int) ∧ j ≤ m ∧ Hid (PQ w wr (fun _ => False) N S M K) ∧ Hid (Run S P K j)) (fun i _ => m - (intOf i).toNat)
  case atStart => exact ⟨0, _, _, _, rfl, Nat.zero_le _, HP3, Lib.hid (run_new X0 HSL.out)⟩
  case round =>
    obtain ⟨j, S, P, K, rfl, hj, HP, HRU⟩ := hrel
    by_cases hjm : j < m
    · have hji : (j : Int) < (m : Int) := by omega
      have hj0 : (0 : Int) ≤ (j : Int) := by omega
      obtain ⟨o, ho⟩ : ∃ o, L[j]? = some o := ⟨L[j]'(by rw [HLM.out]; exact hjm), List.getElem?_eq_getElem (by rw [HLM.out]; exact hjm)⟩
      have hXo : X[j]? = some o := take_get (by rw [← hLX.out]; exact ho)
      obtain ⟨ad, rfl⟩ := ops_some HXX.out (by have := (List.getElem?_eq_some_iff.1 hXo).1; omega)
      obtain ⟨hc0, hc1, hc2, hc3⟩ := op_cells HXX.out hXo HP.out.bel
      clear ho hXo
      go_wp2_with fail
      refine (agree_any o HP.out (fun _ h => h.elim) HRU.out (by omega)).mono ?_
      rintro e w4 ⟨rfl, S', P', K', hp4, hr4, ho4⟩
      have HP4 := Lib.hid hp4
      have HR4 := Lib.hid hr4
      clear hp4 hr4 ho4 hc0 hc1 hc2 hc3
      go_wp2_with fail
      go_roundw
      case rel =>
        first
        | exact ⟨j + 1, S', P', K', by go_num, by omega, HP4, HR4⟩
        | ((repeat apply Exists.intro); exact ⟨⟨j + 1, S', P', K', by go_num, by omega, HP4, HR4⟩, rfl⟩)
      case measure => simp [intOf]; omega
    · obtain rfl : j = m := by omega
      go_wp2_with fail
      refine (counts_pq HP.out HRU.out (by omega)).mono ?_
      rintro e w4 ⟨rfl, ho4⟩
      have HB4 := Lib.hid ((HP.out.same ho4).bel)
      clear ho4
      go_wp2_with fail
      go_ret
      exact ⟨rfl, HB4.out⟩
end Go.Proofs.Ytbfkmdcjamillaa
