/- The walk of the law NetworkFull. -/
import Derived.Test.YtbfkmdcjamillaaFullP
import Derived.Test.YtbfkmdcjamillaaNetG
import Derived.Test.YtbfkmdcjamillaaMake
import Derived.Deep.Cut
import Derived.Deep.CutRange
import Derived.Deep.DeepCutAuto
namespace Go.Proofs.Ytbfkmdcjamillaa
open Go.RowKit Go.Maps

def zs (k : Nat) : List Value := List.replicate k (.int .u8 0)

theorem fuX_vals (k : Nat) : byteVals (fuX k) = zs k ++ [.int .u8 2, .int .u8 0, .int .u8 3, .int .u8 2] := by
  unfold byteVals fuX zs
  rw [List.map_append, List.map_replicate]
  rfl

set_option maxRecDepth 100000 in
set_option maxHeartbeats 4000000 in
theorem lawFull (x : UInt8) (w : World) : Calls Try.prog 6 #[.int .u8 x.toNat] w fun e w' => e = .returned (.bool true) ∧ Below w.heap.size w w' := by
  have hx : (x.toNat : Int) < 256 := by have := x.toNat_lt; omega
  obtain ⟨M, hM⟩ : ∃ M, Hid (M = 4095) := ⟨_, Lib.hid rfl⟩
  go_enter Try.func6, Try.ntmps6
  go_wp2_with fail
  go_loopw [3, 4] (fun s i wr => ∃ k : Nat, i = .int .i64 (k : Int) ∧ k ≤ M ∧ wr.ownsRow w.heap.size 5 1 s k (zs k) ∧ Only Nobody w wr) (fun _ i _ => M - (intOf i).toNat)
  case atStart =>
    exact ⟨0, rfl, Nat.zero_le _, World.ownsRow_lit w #[] 0 (Nat.le_refl _) (by decide) rfl, (Only.refl _ _).alloc _⟩
  case round =>
    obtain ⟨k, rfl, hk, hown, ho⟩ := hrel
    obtain ⟨A6, cap6, rfl⟩ := row_form hown
    have HOWN := Lib.hid hown
    have HO := Lib.hid ho
    clear hown ho
    by_cases hkm : k < M
    · have hki : (k : Int) < 4095 := by have := hM.out; omega
      have hkb : k < 5000 := by omega
      obtain ⟨i0, hi0, hz0, hz1, hz2⟩ := info_parts infoU8
      have HW2 : Hid ((wr.alloc (.cells #[.int .u8 0] 5)).ownsRow w.heap.size 5 1 (.slice A6 k cap6) k (zs k)) := Lib.hid (HOWN.out.alloc _)
      have HR : Hid (Reads (wr.alloc (.cells #[.int .u8 0] 5)) (wr.heap.size + 1) 1 (some ⟨wr.heap.size, 0, none⟩) 1 [.int .u8 0]) := Lib.hid (reads_alloc wr 5 #[.int .u8 0] 1 1 rfl)
      have HB : Hid (w.heap.size ≤ (wr.alloc (.cells #[.int .u8 0] 5)).heap.size) := Lib.hid (by have := HO.out.size; simp; omega)
      have HBY : Hid (k + 1 ≤ maxLen ∧ (k + 1) * 1 ≤ 140737488355328) := Lib.hid ⟨by unfold maxLen; omega, by omega⟩
      have HU : Hid (∀ u ∈ [Value.int .u8 0], u.oneCell' = true) := Lib.hid (by intro u hu; simp only [List.mem_cons, List.not_mem_nil, or_false] at hu; rcases hu with rfl; rfl)
      go_wp2_with (at_builtin; refine wpList_append_any _ rfl (.tmp 12) (.tmp 13) _ rfl w.heap.size 5 i0 _ 1 1 Try.underlying26 hi0 hz0 hz1 hz2 rfl (by omega) (.slice A6 k cap6) k (zs k) rfl HW2.out _ (some ⟨wr.heap.size, 0, none⟩) 1 1 [.int .u8 0] rfl HR.out HU.out HBY.out.1 HBY.out.2 HB.out ?_
                   intro v2 w2 hown2 hg2 hat2
                   have HO2 := Lib.hid hown2
                   have HG2 := Lib.hid hg2
                   clear hown2 hg2 hat2)
      go_roundw
      case rel =>
        refine ⟨k + 1, by simp, by omega, ?_, ?_⟩
        · have := HO2.out
          rw [show zs (k + 1) = zs k ++ [.int .u8 0] from List.replicate_succ']
          exact this
        · exact HO.out.trans_more ((((Only.refl (fun x => w.heap.size ≤ x) wr).alloc _).trans (Only.of_grown HG2.out (fun g hg => (HW2.out.lt g hg).1))).mono (fun x hx => .inr hx))
      case measure =>
        simp [intOf]
        omega
    · have hki : ¬ (k : Int) < 4095 := by have := hM.out; omega
      obtain rfl : k = M := by omega
      have HK : Hid (k = 4095) := hM
      clear hkm hk hM
      have HW2 : Hid ((wr.alloc (.cells #[.int .u8 2, .int .u8 0, .int .u8 3, .int .u8 2] 5)).ownsRow w.heap.size 5 1 (.slice A6 k cap6) k (zs k)) := Lib.hid (HOWN.out.alloc _)
      have HR : Hid (Reads (wr.alloc (.cells #[.int .u8 2, .int .u8 0, .int .u8 3, .int .u8 2] 5)) (wr.heap.size + 1) 1 (some ⟨wr.heap.size, 0, none⟩) 4 [.int .u8 2, .int .u8 0, .int .u8 3, .int .u8 2]) := Lib.hid (reads_alloc wr 5 #[.int .u8 2, .int .u8 0, .int .u8 3, .int .u8 2] 1 4 rfl)
      have HB : Hid (w.heap.size ≤ (wr.alloc (.cells #[.int .u8 2, .int .u8 0, .int .u8 3, .int .u8 2] 5)).heap.size) := Lib.hid (by have := HO.out.size; simp; omega)
      have HBY : Hid (k + 4 ≤ maxLen ∧ (k + 4) * 1 ≤ 140737488355328) := Lib.hid (by rw [HK.out]; decide)
      have HU : Hid (∀ u ∈ [Value.int .u8 2, .int .u8 0, .int .u8 3, .int .u8 2], u.oneCell' = true) := Lib.hid (by intro u hu; simp only [List.mem_cons, List.not_mem_nil, or_false] at hu; rcases hu with rfl | rfl | rfl | rfl <;> rfl)
      obtain ⟨i0, hi0, hz0, hz1, hz2⟩ := info_parts infoU8
      go_wp2_with (at_builtin; refine wpList_append_any _ rfl (.tmp 15) (.tmp 16) _ rfl w.heap.size 5 i0 _ 1 1 Try.underlying26 hi0 hz0 hz1 hz2 rfl (by omega) (.slice A6 k cap6) k (zs k) rfl HW2.out _ (some ⟨wr.heap.size, 0, none⟩) 4 4 [.int .u8 2, .int .u8 0, .int .u8 3, .int .u8 2] rfl HR.out HU.out HBY.out.1 HBY.out.2 HB.out ?_
                   intro v2 w2 hown2 hg2 hat2
                   have HO2 := Lib.hid hown2
                   have HG2 := Lib.hid hg2
                   clear hown2 hg2 hat2)
      have HON : Hid (Only Nobody w w2) := Lib.hid (HO.out.trans_more ((((Only.refl (fun x => w.heap.size ≤ x) wr).alloc _).trans (Only.of_grown HG2.out (fun g hg => (HW2.out.lt g hg).1))).mono (fun x hx => .inr hx)))
      obtain ⟨g, cap, rfl, _, _⟩ := HO2.out.form (by omega)
      have HRX : Hid (Reads w2 w2.heap.size 1 (some ⟨g, 0, none⟩) (k + 4) (byteVals (fuX k))) := Lib.hid (by rw [fuX_vals]; exact Reads.of_own HO2.out)
      have HBN : Hid (Below w.heap.size w w2) := Lib.hid (HON.out.below (Nat.le_refl _) (fun _ x => x.elim))
      clear HW2 HR HB HU HG2 HO2 HO HOWN
      refine (new_net w w2 _ (k + 4) cap (fuX k) HBN.out (.inr ⟨_, rfl, HRX.out⟩) (by rw [HK.out]; decide)).mono ?_
      rintro e w3 ⟨N, F3, rfl, hn3, _, _⟩
      have HN3 := Lib.hid hn3
      clear hn3
      have hpn := ptr_nil
      go_wp2_with fail
      refine (known_any _).mono ?_
      rintro e w4 ⟨rfl, hb4⟩
      have HN4 := Lib.hid (HN3.out.keep (Only.of_below hb4 Nobody) (fun _ x => x.elim) (fun _ _ x => x))
      clear hb4
      go_wp2_with fail
      go_loopw [6] (fun i wr => ∃ (j : Nat) (F : Nat → Prop), i = .int .i64 (j : Int) ∧ j ≤ k ∧ Net w wr F N (fu k j)) (fun i _ => k - (intOf i).toNat)
      case atStart => exact ⟨0, F3, rfl, Nat.zero_le _, HN4.out⟩
      case round =>
        obtain ⟨j, F, rfl, hj, hn⟩ := hrel
        have HN := Lib.hid hn
        clear hn
        by_cases hjk : j < k
        · have hji : (j : Int) < 4095 := by have := HK.out; omega
          have HS : Hid (Small (fu k j)) := Lib.hid ((fu_good HK.out j hj).small (by have := HK.out; omega))
          have HE : Hid (netSendAll (fu k j) sA sB nil0 = (0, fu k (j + 1))) := Lib.hid (fu_send HK.out j hjk)
          go_wp2_with fail
          refine (send_to w _ F N (fu k j) (fu k (j + 1)) 0 _ _ _ HN.out HS.out (by decide +kernel) HE.out).mono ?_
          rintro e w5 ⟨rfl, F5, hn5, _, _⟩
          have HN5 := Lib.hid hn5
          clear hn5
          go_wp2_with fail
          go_roundw
          case rel => exact ⟨j + 1, F5, by simp, by omega, HN5.out⟩
          case measure =>
            simp [intOf]
            omega
        · have hji : ¬ (j : Int) < 4095 := by have := HK.out; omega
          obtain rfl : j = k := by omega
          have HS : Hid (Small (fu j j)) := Lib.hid ((fu_good HK.out j (by omega)).small (by have := HK.out; omega))
          clear hjk hj
          go_wp2_with fail
          refine (send_to w _ F N (fu j j) (fu j j) 9 _ _ _ HN.out HS.out (by decide +kernel) (fu_full HK.out)).mono ?_
          rintro e w5 ⟨rfl, F5, hn5, _, _⟩
          have HN5 := Lib.hid hn5
          clear hn5
          go_wp2_with fail
          refine (pending_net w w5 F5 N (fu j j) HN5.out (by rw [fu_pend HK.out, HK.out]; omega)).mono ?_
          rw [fu_pend HK.out]
          rintro e w6 ⟨rfl, hn6, _⟩
          have HN6 := Lib.hid hn6
          have HJ : Hid ((j : Int) = 4095) := Lib.hid (by have := HK.out; omega)
          clear hn6
          rw [HJ.out]
          go_wp2_with fail
          refine (step_net w w6 F5 N (fu j j) HN6.out (by rw [fu_now]; omega)).mono ?_
          rintro e w7 ⟨rfl, hn7, _⟩
          rw [fu_now] at hn7
          have HN7 := Lib.hid (show Net w w7 F5 N (fu1 j) from hn7)
          clear hn7
          go_wp2_with fail
          refine (receive_net w w7 F5 N (fu1 j) _ HN7.out (fu1_good HK.out).pend (by decide +kernel)).mono ?_
          rintro e w8 ⟨v, rfl, hv, hn8, _⟩
          obtain ⟨A9, c9, hvf⟩ := row_form hv
          rw [show (netTake (fu1 j) ⟨#[98]⟩).length = j from fu1_take HK.out] at hvf
          have HN8 := Lib.hid (show Net w w8 F5 N (fu2 j) from hn8)
          clear hn8 hv
          subst hvf
          have hxn : x.toNat < 256 := by omega
          have hjj : (j : Int) = 4095 := HJ.out
          have hmk := make_bytes x.toNat (by omega) w8
          have hcv := conv_zero x.toNat w8
          have HC : Hid ((zeroS x.toNat).size ≤ 255) := Lib.hid (by rw [zeroS_size]; omega)
          go_wp2_with fail
          refine (send_to w _ F5 N (fu2 j) (netOk (fu2 j) sA sB (zeroS x.toNat)) 0 _ _ _ (HN8.out.keep ((Only.refl Nobody w8).alloc _) (fun _ x => x.elim) (fun _ _ x => x)) ((fu2_good HK.out).small (by have := HK.out; omega)) (by have := HC.out; simp only [maxLen]; omega) (fu2_send HK.out _ HC.out)).mono ?_
          rintro e w9 ⟨rfl, F9, hn9, _, _⟩
          have HN9 := Lib.hid hn9
          clear hn9 hmk hcv
          go_wp2_with fail
          refine (pending_net w w9 F9 N _ HN9.out (by rw [fu3_pend HK.out]; omega)).mono ?_
          rw [fu3_pend HK.out]
          rintro e wa ⟨rfl, hna, _⟩
          have HNA := Lib.hid hna
          clear hna
          go_wp2_with fail
          refine (sent_at N F9 _ wa HNA.out.at_).mono ?_
          rw [fu3_sent]
          rintro e w' ⟨rfl, rfl⟩
          have hj1 : ((j + 1 : Nat) : Int) = 4096 := by omega
          rw [hj1]
          go_wp2_with fail
          go_ret
          exact ⟨rfl, HNA.out.bel⟩

end Go.Proofs.Ytbfkmdcjamillaa
