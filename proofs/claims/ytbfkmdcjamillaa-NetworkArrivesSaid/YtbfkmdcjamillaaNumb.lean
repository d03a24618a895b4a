/- numberOf, delays and make([]int, n): contracts. -/
import Derived.Test.YtbfkmdcjamillaaOpsW
import Derived.Test.YtbfkmdcjamillaaLawA
import Derived.Test.YtbfkmdcjamillaaMake
namespace Go.Proofs.Ytbfkmdcjamillaa
open Go.RowKit Go.Maps

theorem mdelays_at (z : Int) (b : UInt8) (hz : z = b.toNat) (w : World) : Calls Try.prog 14 #[.int .u8 z] w fun e w' => ∃ A, e = .returned (.slice A (delaysL b).length (delaysL b).length) ∧ Only Nobody w w' := by
  subst hz
  unfold delaysL
  by_cases h : b.toNat % 4 = 3
  · refine (mdelays_none b h w).mono ?_
    rintro e w' ⟨rfl, rfl⟩
    exact ⟨none, by simp [h], Only.refl _ _⟩
  · by_cases h2 : b.toNat % 4 = 2
    · refine (mdelays_two b h2 w).mono ?_
      rintro e w' ⟨rfl, rfl⟩
      exact ⟨some ⟨w.heap.size, 0, none⟩, by simp [h2], (Only.refl _ _).alloc _⟩
    · refine (mdelays_one b h h2 w).mono ?_
      rintro e w' ⟨rfl, rfl⟩
      exact ⟨some ⟨w.heap.size, 0, none⟩, by simp [h, h2], (Only.refl _ _).alloc _⟩

def zeroI (n : Nat) : Array Value := madeCells (Value.int .i64 0).cells (n * 1)
theorem zeroI_eq (n : Nat) : zeroI n = (List.replicate n (Value.int .i64 0)).toArray := by
  apply Array.toList_inj.1
  rw [zeroI, Nat.mul_one]
  exact toList_madeCells_one _ n
theorem make_ints (n : Nat) (h : n ≤ 16777216) (w : World) : (Instr.makeSlice 22 (.int .i64 (n : Int)) (.int .i64 (n : Int))).run Try.prog w = .ok (.slice (some ⟨w.heap.size, 0, none⟩) n n) (w.alloc (.cells (zeroI n) 3)) := by
  have := run_makeSlice (P := Try.prog) w 22 3 Try.t3 (.int .i64 0) Try.underlying22 (by kernel_rfl) (by kernel_rfl) .i64 .i64 (n : Int) n (by omega) (Int.le_refl _) (by show (n : Int).toNat * 1 ≤ _; omega) (by show ((8 : Nat) : Int) * n ≤ _; omega) (by omega)
  rw [this]
  rfl

set_option maxRecDepth 100000 in
set_option maxHeartbeats 1000000 in
theorem numberOf_any (s : ByteArray) (h4 : s.size = 4) (a b c : Nat) (ha : a ≤ 9) (hb : b ≤ 9) (hc : c ≤ 9) (h1 : s[1].toNat = 48 + a) (h2 : s[2].toNat = 48 + b) (h3 : s[3].toNat = 48 + c) (w : World) :
    Calls Try.prog 26 #[.string s] w fun e w' => e = .returned (.int .i64 ((a * 100 + b * 10 + c : Nat) : Int)) ∧ Only Nobody w w' := by
  have hs1 : (1 : Int) < (s.size : Int) := by omega
  have hs2 : (2 : Int) < (s.size : Int) := by omega
  have hs3 : (3 : Int) < (s.size : Int) := by omega
  have hne : ((s.size : Int) != 4) = false := by simp; omega
  have H1 := Lib.hid h1
  have H2 := Lib.hid h2
  have H3 := Lib.hid h3
  clear h1 h2 h3 
  go_enter Try.func26, Try.ntmps26
  go_wp2_with fail
  go_quiet (fail)
  go_wp2_with fail
  go_ret
  exact ⟨ret_int (by have := H1.out; have := H2.out; have := H3.out; omega), (Only.refl _ _).drewN _⟩

theorem numberOf_data (i : Nat) (hi : i < 256) (w : World) : Calls Try.prog 26 #[.string (dataS i)] w fun e w' => e = .returned (.int .i64 (i : Int)) ∧ Only Nobody w w' := by
  have e : i / 100 * 100 + i / 10 % 10 * 10 + i % 10 = i := by omega
  have hd : ∀ d : Nat, d ≤ 9 → (UInt8.ofNat (48 + d)).toNat = 48 + d := fun d h => by
    rw [UInt8.toNat_ofNat_of_lt' (show 48 + d < UInt8.size by simp [UInt8.size]; omega)]
  have h := numberOf_any (dataS i) rfl (i / 100) (i / 10 % 10) (i % 10) (by omega) (by omega) (by omega) (hd _ (by omega)) (hd _ (by omega)) (hd _ (by omega)) w
  rw [e] at h
  exact h

end Go.Proofs.Ytbfkmdcjamillaa
