/- Calendar: the reference's decimal. -/
import Derived.Test.YthkkjfofpoifiaaDoorCalX
import Derived.Test.YthkkjfofpoifiaaDoorCalSl
namespace Go.Proofs.YthkkjfofpoifiaaDoor
open Go.RowKit

theorem dgs1 (n : Nat) : dgs n 1 = [UInt8.ofNat (48 + n % 10)] := rfl
theorem dec_small {n : Nat} (h : n < 10) : Lib.decDigits n = dgs n 1 := by
  rw [Lib.decDigits_one h, dgs1, Nat.mod_eq_of_lt h]
theorem dec_big {n : Nat} (h : ¬ n < 10) : Lib.decDigits n = Lib.decDigits (n / 10) ++ dgs n 1 := by
  rw [Lib.decDigits, dif_neg h, dgs1]
set_option maxRecDepth 100000 in
set_option maxHeartbeats 1000000 in
theorem rDec_any (n : Nat) : n ≤ 1000000000 → ∀ w : World, Calls Tryd.prog 58 #[.int .i64 (n : Int)] w fun e w' => e = .returned (.string ⟨(Lib.decDigits n).toArray⟩) ∧ Below w.heap.size w w' := by
  induction n using Nat.strongRecOn with
  | _ n ih =>
    intro hn w
    obtain ⟨p, HP, hpz⟩ : ∃ p : ByteArray, Hid (p = ⟨(dgs n 1).toArray⟩) ∧ p.size = 1 := ⟨_, Lib.hid rfl, by rw [← size_len]; exact dgs_len 1 n⟩
    by_cases h10 : n < 10
    · have HE : Hid (p = ⟨(Lib.decDigits n).toArray⟩) := Lib.hid (by rw [HP.out, dec_small h10])
      have h10i : (n : Int) < 10 := by omega
      have HD := Lib.hid (rDigits1 n hn)
      clear ih h10
      go_enter Tryd.func58, Tryd.ntmps58
      go_wp2_with fail
      refine (HD.out _).mono ?_
      rw [← HP.out]
      rintro e w1 ⟨rfl, hb1⟩
      have HB1 := Lib.hid hb1
      clear hb1
      go_wp2_with fail
      go_ret
      exact ⟨ret_str HE.out, HB1.out⟩
    · obtain ⟨q, HQ⟩ : ∃ q : ByteArray, Hid (q = ⟨(Lib.decDigits (n / 10)).toArray⟩) := ⟨_, Lib.hid rfl⟩
      have hqz : q.size ≤ 9 := by rw [HQ.out, ← size_len]; exact (dec_len (n / 10) (by omega)).2
      have HE : Hid (q ++ p = ⟨(Lib.decDigits n).toArray⟩) := Lib.hid (str_ext (by rw [HP.out, HQ.out, dec_big h10]; simp))
      have h10i : ¬ (n : Int) < 10 := by omega
      have hn0 : (0 : Int) ≤ (n : Int) := by omega
      have HD := Lib.hid (rDigits1 n hn)
      have HI : Hid (∀ w : World, Calls Tryd.prog 58 #[.int .i64 ((n : Int) / 10)] w fun e w' => e = .returned (.string q) ∧ Below w.heap.size w w') := Lib.hid (fun w => by
        have := ih (n / 10) (by omega) (by omega) w
        rw [HQ.out, show (n : Int) / 10 = ((n / 10 : Nat) : Int) by omega]
        exact this)
      have hsum : ¬ 9223372036854775807 < q.size + p.size := by omega
      have hsum2 : ¬ 9223372036854775807 < q.size + 1 := by omega
      clear ih h10
      go_enter Tryd.func58, Tryd.ntmps58
      go_wp2_with fail
      refine (HI.out _).mono ?_
      rintro e w1 ⟨rfl, hb1⟩
      have HB1 := Lib.hid hb1
      clear hb1
      go_wp2_with fail
      refine (HD.out _).mono ?_
      rw [← HP.out]
      rintro e w2 ⟨rfl, hb2⟩
      have HB2 := Lib.hid (below_trans HB1.out hb2)
      clear hb2
      go_wp2_with fail
      go_ret
      exact ⟨ret_str HE.out, HB2.out⟩

end Go.Proofs.YthkkjfofpoifiaaDoor
