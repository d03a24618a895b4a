/- Path: contract of the reference's decimal (lines of XMoA turned to it). -/
import Derived.Test.YtdccckoelnnnoaaDoorTab
import Derived.WalkKit
import Derived.Lib.Hide
import Derived.Deep.QuietTactic
import Derived.BigQuiet
import Derived.Deep.RegionHeld3
import Derived.Deep.DrawnRows
import Derived.Deep.Cut
import Derived.Deep.CutRange
import Derived.Deep.DeepCutAuto
import Derived.Laws.BytesArg
import Derived.Lib.ItoaNum
import Derived.BigRegion
import Derived.Deep.RegionLaw
namespace Go.Proofs.YtdccckoelnnnoaaDoor
open Go.RowKit
attribute [local go_sem ↓] Go.wp_at_zero Go.wp_at_succ

theorem conv1 (x : Nat) (_hx : x < 256) (w : World) :
    (convert 97 9 (.slice (some ⟨w.heap.size, 0, none⟩) 1 1)).run Tryd.prog (w.alloc (.cells #[.int .u8 (x : Int)] 5)) =
      .ok (.string ⟨#[UInt8.ofNat x]⟩) (w.alloc (.cells #[.int .u8 (x : Int)] 5)) := by
  have e : strOfNums [(x : Int)] = ⟨#[UInt8.ofNat x]⟩ := by
    unfold strOfNums
    simp
  rw [← e]
  refine run_convert_bytes_arg (P := Tryd.prog) _ 97 5 Tryd.underlying97 Tryd.underlying5 w.heap.size 0 1 1 [(x : Int)] rfl (fun i hi => ?_) 9 Tryd.underlying9
  rw [World.cell?_alloc_mark, Nat.zero_add]
  have : i = 0 := by omega
  subst this
  rfl
theorem conv1w (x : Nat) (_hx : x < 256) (g : Nat) (w : World) (h : w.cell? ⟨g, 0, none⟩ = some (.int .u8 (x : Int))) :
    (convert 97 9 (.slice (some ⟨g, 0, none⟩) 1 1)).run Tryd.prog w = .ok (.string ⟨#[UInt8.ofNat x]⟩) w := by
  have e : strOfNums [(x : Int)] = ⟨#[UInt8.ofNat x]⟩ := by
    unfold strOfNums
    simp
  rw [← e]
  refine run_convert_bytes_arg (P := Tryd.prog) _ 97 5 Tryd.underlying97 Tryd.underlying5 g 0 1 1 [(x : Int)] rfl (fun i hi => ?_) 9 Tryd.underlying9
  have : i = 0 := by omega
  subst this
  exact h
def digS (u : Nat) : ByteArray := ⟨#[UInt8.ofNat (48 + u)]⟩
theorem digS_size (u : Nat) : (digS u).size = 1 := rfl
theorem conv_small (u : Nat) (h : u < 10) (w : World) :
    (convert 97 9 (.slice (some ⟨w.heap.size, 0, none⟩) 1 1)).run Tryd.prog (w.alloc (.cells #[.int .u8 (48 + (u : Int))] 5)) =
      .ok (.string (digS u)) (w.alloc (.cells #[.int .u8 (48 + (u : Int))] 5)) := conv1 (48 + u) (by omega) w
theorem conv_digit (u : Nat) (w : World) :
    (convert 97 9 (.slice (some ⟨w.heap.size, 0, none⟩) 1 1)).run Tryd.prog (w.alloc (.cells #[.int .u8 (48 + (u : Int) % 10)] 5)) =
      .ok (.string (digS (u % 10))) (w.alloc (.cells #[.int .u8 (48 + (u : Int) % 10)] 5)) := conv1 (48 + u % 10) (by omega) w
theorem dec_sz : ∀ (k n : Nat), n < 10 ^ (k + 1) → (Lib.decDigits n).length ≤ k + 1
  | 0, n, h => by rw [Lib.decDigits_one (by simpa using h)]; simp
  | k + 1, n, h => by
    by_cases h10 : n < 10
    · rw [Lib.decDigits_one h10]; simp
    · rw [Lib.decDigits, dif_neg h10, List.length_append]
      have := dec_sz k (n / 10) (by rw [Nat.pow_succ] at h; omega)
      simp
      omega
def decS (n : Nat) : ByteArray := ⟨(Lib.decDigits n).toArray⟩
theorem decS_size {n : Nat} (h : n ≤ 2000000000000) : (decS n).size ≤ 13 := dec_sz 12 n (by omega)
theorem decS_small {n : Nat} (h : n < 10) : decS n = digS n := by unfold decS digS; rw [Lib.decDigits_one h]
theorem decS_big {n : Nat} (h : ¬ n < 10) : decS n = decS (n / 10) ++ digS (n % 10) := by
  apply str_ext
  unfold decS digS
  rw [Lib.decDigits, dif_neg h]
  simp

set_option maxRecDepth 100000 in
set_option maxHeartbeats 1000000 in
theorem decimal_nat (n : Nat) : n ≤ 2000000000000 → ∀ w : World, Calls Tryd.prog 44 #[.int .i64 (n : Int)] w fun e w' => e = .returned (.string (decS n)) ∧ Only Nobody w w' := by
  induction n using Nat.strongRecOn with
  | _ n ih =>
    intro hn w
    have hn0 : (0 : Int) ≤ (n : Int) := by omega
    have hnI : (n : Int) ≤ 2000000000000 := by omega
    by_cases h10 : n < 10
    · have HE := Lib.hid (decS_small h10)
      have h10i : (n : Int) < 10 := by omega
      have hcv := conv_small n h10
      have hw : IntKind.u8.wrap (48 + (n : Int)) = 48 + (n : Int) := by simp [IntKind.wrap, IntKind.signed, IntKind.bits]; omega
      clear ih h10 hn
      go_enter Tryd.func44, Tryd.ntmps44
      go_wp2_with fail
      go_ret
      exact ⟨ret_str HE.out.symm, by repeat (first | exact Only.refl _ _ | refine Only.drew ?_ | refine Only.alloc ?_ _)⟩
    · have HE := Lib.hid (decS_big h10)
      have h10i : ¬ (n : Int) < 10 := by omega
      have hqz : (decS (n / 10)).size ≤ 13 := decS_size (by omega)
      obtain ⟨q, HQ⟩ : ∃ q, Hid (q = decS (n / 10)) := ⟨_, Lib.hid rfl⟩
      rw [← HQ.out] at HE hqz
      have HI : Hid (∀ w : World, Calls Tryd.prog 44 #[.int .i64 ((n : Int) / 10)] w fun e w' => e = .returned (.string q) ∧ Only Nobody w w') := Lib.hid (fun w => by
        have := ih (n / 10) (by omega) (by omega) w
        rw [HQ.out, show (n : Int) / 10 = ((n / 10 : Nat) : Int) by omega]
        exact this)
      have hcv := conv_digit n
      obtain ⟨p, HP⟩ : ∃ p, Hid (p = digS (n % 10)) := ⟨_, Lib.hid rfl⟩
      rw [← HP.out] at HE hcv
      have hps : p.size = 1 := by rw [HP.out]; rfl
      have HCV : Hid (∀ w1, Only Nobody (w.alloc (.cells #[.int .u8 (48 + (n : Int) % 10)] 5)) w1 → (convert 97 9 (.slice (some ⟨w.heap.size, 0, none⟩) 1 1)).run Tryd.prog w1 = .ok (.string p) w1) := Lib.hid (fun w1 ho => by
        have := conv1w (48 + n % 10) (by omega) w.heap.size w1 ((ho.cell (p := ⟨w.heap.size, 0, none⟩) (by simp) (fun x => x)).trans (by rw [World.cell?_alloc_mark]; rfl))
        rw [HP.out]
        exact this)
      have hcv2 := HCV.out _ (Only.refl _ _).drew
      have hq1 : IntKind.i64.wrap ((n : Int) / 10) = (n : Int) / 10 := by rw [IntKind.wrap_i64]; omega
      have hw0 : IntKind.i64.wrap (48 + (n : Int) % 10) = 48 + (n : Int) % 10 := by rw [IntKind.wrap_i64]; omega
      have hq : (n : Int).tdiv 10 = (n : Int) / 10 := Int.tdiv_eq_ediv_of_nonneg hn0
      have hr : (n : Int).tmod 10 = (n : Int) % 10 := Int.tmod_eq_emod_of_nonneg hn0
      have hm0 : (0 : Int) ≤ (n : Int) % 10 := by omega
      have hm9 : (n : Int) % 10 ≤ 9 := by omega
      have hw : IntKind.u8.wrap (48 + (n : Int) % 10) = 48 + (n : Int) % 10 := by simp [IntKind.wrap, IntKind.signed, IntKind.bits]; omega
      have hsum : ¬ 9223372036854775807 < q.size + 1 := by omega
      clear ih h10 hn
      go_enter Tryd.func44, Tryd.ntmps44
      go_wp2_with fail
      go_region_law (first
        | (go_simp; go_at_call 44; refine (HI.out _).mono ?_; rintro e w1 ⟨rfl, ho1⟩; (first | have hcw := HCV.out w1 ho1 | have hcw := HCV.out w1 (Only.trans ((Only.refl _ _).drew) ho1) | skip); have HO1 := Lib.hid ho1; clear ho1))
      all_goals
        go_wp2_with fail
        go_ret
        refine ⟨ret_str HE.out.symm, ?_⟩
        first
        | exact ((Only.refl _ _).alloc _).drew.trans HO1.out
        | exact ((Only.refl _ _).drew.trans HO1.out).alloc _
        | exact (((Only.refl _ _).alloc _).trans HO1.out)
        | exact (((Only.refl _ _).trans HO1.out).alloc _)

end Go.Proofs.YtdccckoelnnnoaaDoor
