/- The walk of the law NetworkErrors. -/
import Derived.Test.YtbfkmdcjamillaaErrP
import Derived.Test.YtbfkmdcjamillaaMake
import Derived.Deep.Cut
import Derived.Deep.CutRange
import Derived.Deep.DeepCutAuto
namespace Go.Proofs.Ytbfkmdcjamillaa
open Go.RowKit Go.Maps

/-- A string cut to at most n bytes. -/
def cutS (s : ByteArray) (n : Nat) : ByteArray := s.extract 0 (min s.size n)
theorem cutS_size (s : ByteArray) (n : Nat) : (cutS s n).size ≤ n := by unfold cutS; rw [ByteArray.size_extract]; omega

theorem new_er (w0 w : World) (g : Nat) (hb : Below w0.heap.size w0 w) (hg : Blk w g 5 #[.int .u8 4]) :
    Calls Try.prog 16 #[.slice (some ⟨g, 0, none⟩) 1 1] w fun e w' => ∃ N F, e = .returned (.pointer (some ⟨N, 0, none⟩)) ∧ Net w0 w' F N er0 ∧ Only Nobody w w' ∧ ∀ b, F b → w.heap.size ≤ b :=
  new_net w0 w _ 1 1 [4] hb (.inr ⟨_, rfl, rfl, fun _ => ⟨_, rfl, hg.lt, fun j u hu => by
    rw [addr0, hg.cell, ← hu]
    rcases j with _ | j <;> rfl⟩⟩) (by omega)

/-- What the law's first part leaves. -/
def ErMid (a b : ByteArray) (w : World) (p g e : Value) (wx : World) : Prop :=
  ∃ N F, p = .pointer (some ⟨N, 0, none⟩) ∧ g = .bool (placeB a && placeB b) ∧ e = .int .i64 0 ∧ Net w wx F N (er1 a b)

def longS : ByteArray := zeroS 1048577
def longC : Array Value := zeroC 1048577
theorem long_make (w : World) : (Instr.makeSlice 26 (.int .i64 1048577) (.int .i64 1048577)).run Try.prog w = .ok (.slice (some ⟨w.heap.size, 0, none⟩) 1048577 1048577) (w.alloc (.cells longC 5)) := make_bytes 1048577 (by omega) w
theorem long_conv (w : World) : (convert 26 9 (.slice (some ⟨w.heap.size, 0, none⟩) 1048577 1048577)).run Try.prog (w.alloc (.cells longC 5)) = .ok (.string longS) (w.alloc (.cells longC 5)) := conv_zero 1048577 w
theorem long_size : longS.size = 1048577 := zeroS_size _

set_option maxRecDepth 100000 in
set_option maxHeartbeats 2000000 in
theorem lawErrors (a b : ByteArray) (k : UInt8) (w : World) : Calls Try.prog 5 #[.string a, .string b, .int .u8 k.toNat] w fun e w' => e = .returned (.bool true) ∧ Below w.heap.size w w' := by
  go_enter Try.func5, Try.ntmps5
  go_upto_region 1 with fail
  go_cut [0, 1] (fun s0 s1 wx => s0 = .string (cutS a 80) ∧ s1 = .string (cutS b 80) ∧ Only Nobody w wx)
  case first =>
    go_region
    go_wp2_with fail
    go_meet
    have e1 : (min (a.size : Int) 80).toNat = min a.size 80 := by omega
    have e2 : (min (b.size : Int) 80).toNat = min b.size 80 := by omega
    rw [e1, e2]
    exact ⟨rfl, rfl, (Only.refl _ _).drew⟩
  case rest =>
    obtain ⟨rfl, rfl, ho1⟩ := hcut
    have hb1 := ho1.below (Nat.le_refl _) (fun _ x => x.elim)
    have hsa := cutS_size a 80
    have hsb := cutS_size b 80
    generalize cutS a 80 = a' at hsa ⊢
    generalize cutS b 80 = b' at hsb ⊢

    go_wp2_with fail
    refine (new_er w _ _ (hb1.alloc hb1.size _) (Blk.new wc 5 #[.int .u8 4])).mono ?_
    rintro e w1 ⟨N, F1, rfl, hn1, _, _⟩
    have HN1 := Lib.hid hn1
    have HB1 := Lib.hid (Below.refl w1.heap.size w1)
    clear hn1 ho1 hb1
    have hpn := ptr_nil
    go_wp2_with fail
    refine (known_any _).mono ?_
    rintro e w2 ⟨rfl, hb2⟩
    have HN2 := Lib.hid (HN1.out.keep (Only.of_below hb2 Nobody) (fun _ x => x.elim) (fun _ _ x => x))
    clear hb2
    go_wp2_with fail
    refine (send_net w w2 F1 N er0 a' b' _ HN2.out (er0_good.small (by omega)) (by decide +kernel)).mono ?_
    rintro e w3 ⟨rfl, F3, hn3, _, _⟩
    have HN3 := Lib.hid (show Net w w3 F3 N (er1 a' b') from hn3)
    clear hn3
    go_upto_region 6 with fail
    have he1 : (netSendAll er0 a' b' ⟨#[120]⟩).1 = if (placeB a' && placeB b') = true then 0 else 12 := by
      change (netSendAll er0 a' b' sX).1 = _
      by_cases hp : (placeB a' && placeB b') = true
      · rw [if_pos hp]; exact (er1_yes a' b' hp).1
      · rw [if_neg hp]; exact (er1_no a' b' (by simpa using hp)).1
    have EL : Hid (Value.int .i64 (netSendAll er0 a' b' ⟨#[120]⟩).1 = .int .i64 (if (placeB a' && placeB b') = true then 0 else 12)) := Lib.hid (congrArg _ he1)
    clear he1
    go_cut [9, 8] (fun s s8 wx => s = .bool (placeB a' && placeB b') ∧ s8 = .int .i64 (if (placeB a' && placeB b') = true then 0 else 12) ∧ wx = w3)
    case first =>
      have fin : ∀ g : Bool, g = (decide (1 ≤ a'.size) && decide (a'.size ≤ 64) && decide (1 ≤ b'.size) && decide (b'.size ≤ 64)) → g = (placeB a' && placeB b') := by
        intro g hg
        rw [hg]
        unfold placeB
        simp only [Bool.and_assoc]
        rfl
      have FIN := Lib.hid fin
      clear fin
      by_cases h1 : 1 ≤ a'.size
      · by_cases h2 : a'.size ≤ 64
        · by_cases h3 : 1 ≤ b'.size
          · by_cases h4 : b'.size ≤ 64
            all_goals
              go_wp2_with fail
              go_meet
              exact ⟨congrArg Value.bool (FIN.out _ (by simp [*] <;> omega)), EL.out, rfl⟩
          · go_wp2_with fail
            go_meet
            exact ⟨congrArg Value.bool (FIN.out _ (by simp [*] <;> omega)), EL.out, rfl⟩
        · go_wp2_with fail
          go_meet
          exact ⟨congrArg Value.bool (FIN.out _ (by simp [*] <;> omega)), EL.out, rfl⟩
      · go_wp2_with fail
        go_meet
        exact ⟨congrArg Value.bool (FIN.out _ (by simp [*] <;> omega)), EL.out, rfl⟩
    case rest =>
      obtain ⟨rfl, rfl, rfl⟩ := hcut
      have hE : ∀ d : ByteArray, d.size ≤ 255 → ErEnd a' b' d (if (placeB a' && placeB b') = true then 1 else 0) (if (placeB a' && placeB b') = true then (if b' = sB then 1 else 0) else 1) := by
        intro d hd
        by_cases hp : (placeB a' && placeB b') = true
        · rw [if_pos hp, if_pos hp]; exact er_end_yes a' b' d hd hp
        · rw [if_neg hp, if_neg hp]; exact er_end_no a' b' d hd (by simpa using hp)
      have HE := Lib.hid hE
      clear hE EL
      generalize (placeB a' && placeB b') = g at HE ⊢
      go_upto_region 7 with fail
      go_cut [65] (fun s wx => s = .bool false ∧ wx = wc)
      case first =>
        cases g
        · simp only [Bool.false_eq_true, if_false]
          go_wp2_with fail
          go_meet
          exact ⟨rfl, rfl⟩
        · simp only [if_true]
          go_wp2_with fail
          go_meet
          exact ⟨rfl, rfl⟩
      case rest =>
        obtain ⟨rfl, rfl⟩ := hcut
        generalize (if g = true then (0 : Int) else 12) = e8
        have hmk := long_make wc
        have hcv := long_conv wc
        have hls := long_size
        have hkl : (k.toNat : Int) < 256 := by have := k.toNat_lt; omega
        go_wp2_with fail
        have HSM := Lib.hid (show Small (er1 a' b') from by obtain ⟨P, hP⟩ := er_good1 a' b'; exact hP.small (by omega))
        refine (send_net w (wc.alloc (Obj.cells longC 5)) F3 N (er1 a' b') _ _ _ (HN3.out.keep ((Only.refl Nobody wc).alloc _) (fun _ x => x.elim) (fun _ _ x => x)) HSM.out (by rw [long_size]; decide)).mono ?_
        rw [show netSendAll (er1 a' b') ⟨#[97]⟩ ⟨#[98]⟩ longS = (5, er1 a' b') from send_big _ (by decide) (by rw [long_size]; omega)]
        rintro e w4 ⟨rfl, F4, hn4, _, _⟩
        have HN4 := Lib.hid (show Net w w4 F4 N (er1 a' b') from hn4)
        clear hn4 hmk hcv
        go_wp2_with fail
        refine (send_net w w4 F4 N (er1 a' b') _ _ _ HN4.out HSM.out (by rw [long_size]; decide)).mono ?_
        rw [show netSendAll (er1 a' b') ⟨#[97]⟩ ⟨#[]⟩ longS = (12, er1 a' b') from send_bad _ _ (by decide)]
        rintro e w5 ⟨rfl, F5, hn5, _, _⟩
        have HN5 := Lib.hid (show Net w w5 F5 N (er1 a' b') from hn5)
        clear hn5
        go_wp2_with fail
        have hdd : (longS.extract 0 k.toNat).size ≤ 255 := by rw [ByteArray.size_extract]; omega
        have hdx : ∃ n1 n2, ErEnd a' b' (longS.extract 0 k.toNat) n1 n2 ∧ n1 = (if g = true then 1 else 0) ∧ n2 = (if g = true then if b' = sB then 1 else 0 else 1) := ⟨_, _, HE.out _ hdd, rfl, rfl⟩
        obtain ⟨n1, n2, hd, hn1, hn2⟩ := hdx
        have HD := Lib.hid hd
        have HQ1 := Lib.hid hn1
        have HQ2 := Lib.hid hn2
        clear hdd hd hn1 hn2
        refine (send_net w w5 F5 N (er1 a' b') _ _ _ HN5.out HSM.out (show (longS.extract 0 k.toNat).size ≤ maxLen from by rw [ByteArray.size_extract]; simp only [maxLen]; omega)).mono ?_
        rw [show netSendAll (er1 a' b') ⟨#[97]⟩ ⟨#[98]⟩ (longS.extract 0 k.toNat) = (0, er2 a' b' (longS.extract 0 k.toNat)) from Prod.ext HD.out.ok rfl]
        generalize longS.extract 0 k.toNat = d at HD ⊢
        rintro e w6 ⟨rfl, F6, hn6, _, _⟩
        have HN6 := Lib.hid (show Net w w6 F6 N (er2 a' b' d) from hn6)
        clear hn6 hls hkl
        go_wp2_with fail
        refine (step_net w w6 F6 N (er2 a' b' d) HN6.out (by rw [HD.out.now2]; omega)).mono ?_
        rintro e w7 ⟨rfl, hn7, _⟩
        rw [HD.out.now2] at hn7
        have HN7 := Lib.hid (show Net w w7 F6 N (er3 a' b' d) from hn7)
        clear hn7
        go_wp2_with fail
        refine (receive_net w w7 F6 N (er3 a' b' d) _ HN7.out HD.out.pend3 (by decide +kernel)).mono ?_
        rintro e w8 ⟨v, rfl, hv, hn8, _⟩
        obtain ⟨A8, c8, hvf⟩ := row_form hv
        rw [show (netTake (er3 a' b' d) ⟨#[98]⟩).length = _ from HD.out.n1] at hvf
        have HN8 := Lib.hid (show Net w w8 F6 N (er4 a' b' d) from hn8)
        clear hn8 hv
        subst hvf
        go_wp2_with fail
        refine (step_net w w8 F6 N (er4 a' b' d) HN8.out (by rw [HD.out.now4]; omega)).mono ?_
        rintro e w9 ⟨rfl, hn9, _⟩
        rw [HD.out.now4] at hn9
        have HN9 := Lib.hid (show Net w w9 F6 N (er5 a' b' d) from hn9)
        clear hn9
        go_wp2_with fail
        refine (receive_net w w9 F6 N (er5 a' b' d) _ HN9.out HD.out.pend5 (by decide +kernel)).mono ?_
        rintro e wa ⟨v, rfl, hv, hna, _⟩
        obtain ⟨Aa, ca, hvf⟩ := row_form hv
        rw [show (netTake (er5 a' b' d) ⟨#[98]⟩).length = _ from HD.out.n2] at hvf
        have HB := Lib.hid hna.bel
        clear hna hv
        subst hvf
        have q1 := HQ1.out
        have q2 := HQ2.out
        clear HQ1 HQ2
        cases g
        · obtain rfl : n1 = 0 := q1
          obtain rfl : n2 = 1 := q2
          go_wp2_with fail
          go_ret
          exact ⟨rfl, HB.out⟩
        · obtain rfl : n1 = 1 := q1
          by_cases hbb : b' = sB
          · obtain rfl : n2 = 1 := by rw [q2, if_pos rfl, if_pos hbb]
            have HX : Hid ((b'.toList == [98]) = true) := Lib.hid (by rw [hbb]; decide +kernel)
            clear q2 hbb
            go_wp2_with fail
            all_goals first
              | (have hh : (!(b'.toList == [98])) = true := by assumption
                 exfalso; rw [HX.out] at hh; exact absurd hh (by decide))
              | (go_ret; exact ⟨rfl, HB.out⟩)
          · obtain rfl : n2 = 0 := by rw [q2, if_pos rfl, if_neg hbb]
            have HX : Hid ((b'.toList == [98]) = false) := Lib.hid (by
              rw [beq_eq_false_iff_ne]
              intro e
              refine hbb (ByteArray.ext (Array.toList_inj.1 ?_))
              rw [ByteArray.toList_eq] at e
              exact e)
            clear q2 hbb
            go_wp2_with fail
            all_goals first
              | (go_ret; exact ⟨rfl, HB.out⟩)
              | (have hh : (!(b'.toList == [98])) = false := by assumption
                 exfalso; rw [HX.out] at hh; exact absurd hh (by decide))

theorem walkErrors (a : ByteArray) (_ : a.size ≤ maxLen) (_ : a.size ≤ reachBytes) (b : ByteArray) (_ : b.size ≤ maxLen) (_ : b.size ≤ reachBytes) (k : UInt8) (w : World) :
    Calls Try.prog 5 #[.string a, .string b, .int .u8 k.toNat] w fun e w' => e = .returned (.bool true) ∧ Below w.heap.size w w' := lawErrors a b k w

end Go.Proofs.Ytbfkmdcjamillaa
