/- Calendar: contracts of units and SpanText (printed by wip/gen_span.py). -/
import Derived.Test.YthkkjfofpoifiaaDoorCalS
import Derived.Lib.ItoaLen
import Derived.Deep.RegionHeld3
import Derived.Deep.DrawnRows
namespace Go.Proofs.YthkkjfofpoifiaaDoor
open Go.RowKit
attribute [local go_sem ↓] Go.wp_at_zero Go.wp_at_succ

def unitsV : Value := .agg #[.string ⟨#[100]⟩, .int .i64 86400000, .int .i64 0, .string ⟨#[104]⟩, .int .i64 3600000, .int .i64 23, .string ⟨#[109]⟩, .int .i64 60000, .int .i64 59, .string ⟨#[115]⟩, .int .i64 1000, .int .i64 59, .string ⟨#[109, 115]⟩, .int .i64 1, .int .i64 999]
set_option maxRecDepth 100000 in
set_option maxHeartbeats 1000000 in
theorem units_any (w : World) : Calls Tryd.prog 54 #[] w fun e w' => e = .returned unitsV ∧ Below w.heap.size w w' := by
  go_enter Tryd.func54, Tryd.ntmps54
  go_wp2_with fail
  exact bodyPost_ret (v := unitsV) (by simp [results, Tryd.results54, go_sem, unitsV]) rfl ⟨rfl, (Below.refl _ _).alloc (Nat.le_refl _) _⟩

theorem uIdx (w : World) : (Instr.index 61 unitsV (.int .i64 0)).run Tryd.prog w = .ok (.agg #[.string ⟨#[100]⟩, .int .i64 86400000, .int .i64 0]) w ∧ (Instr.index 61 unitsV (.int .i64 1)).run Tryd.prog w = .ok (.agg #[.string ⟨#[104]⟩, .int .i64 3600000, .int .i64 23]) w ∧ (Instr.index 61 unitsV (.int .i64 2)).run Tryd.prog w = .ok (.agg #[.string ⟨#[109]⟩, .int .i64 60000, .int .i64 59]) w ∧ (Instr.index 61 unitsV (.int .i64 3)).run Tryd.prog w = .ok (.agg #[.string ⟨#[115]⟩, .int .i64 1000, .int .i64 59]) w ∧ (Instr.index 61 unitsV (.int .i64 4)).run Tryd.prog w = .ok (.agg #[.string ⟨#[109, 115]⟩, .int .i64 1, .int .i64 999]) w :=
  ⟨by kernel_rfl, by kernel_rfl, by kernel_rfl, by kernel_rfl, by kernel_rfl⟩

/-- The units, from the greatest one on. -/
def unitsL : List (List UInt8 × Nat) := [([100], 86400000), ([104], 3600000), ([109], 60000), ([115], 1000), ([109, 115], 1)]
/-- The text of a duration, but for 0. -/
def spanGo : List (List UInt8 × Nat) → Nat → List UInt8
  | [], _ => []
  | (nm, sz) :: r, t => if t / sz = 0 then spanGo r t else Lib.decDigits (t / sz) ++ nm ++ spanGo r (t % sz)
def spanL (n : Nat) : List UInt8 := if n = 0 then [48, 115] else spanGo unitsL n

theorem spanGo_0 (t : Nat) : spanGo (unitsL.drop 0) t = if t / 86400000 = 0 then spanGo (unitsL.drop 1) t else Lib.decDigits (t / 86400000) ++ [100] ++ spanGo (unitsL.drop 1) (t % 86400000) := rfl
theorem spanGo_1 (t : Nat) : spanGo (unitsL.drop 1) t = if t / 3600000 = 0 then spanGo (unitsL.drop 2) t else Lib.decDigits (t / 3600000) ++ [104] ++ spanGo (unitsL.drop 2) (t % 3600000) := rfl
theorem spanGo_2 (t : Nat) : spanGo (unitsL.drop 2) t = if t / 60000 = 0 then spanGo (unitsL.drop 3) t else Lib.decDigits (t / 60000) ++ [109] ++ spanGo (unitsL.drop 3) (t % 60000) := rfl
theorem spanGo_3 (t : Nat) : spanGo (unitsL.drop 3) t = if t / 1000 = 0 then spanGo (unitsL.drop 4) t else Lib.decDigits (t / 1000) ++ [115] ++ spanGo (unitsL.drop 4) (t % 1000) := rfl
theorem spanGo_4 (t : Nat) : spanGo (unitsL.drop 4) t = if t / 1 = 0 then spanGo (unitsL.drop 5) t else Lib.decDigits (t / 1) ++ [109, 115] ++ spanGo (unitsL.drop 5) (t % 1) := rfl

theorem itoa_small (n : Int) (h0 : 0 ≤ n) (h1 : n ≤ 17592186044416) : (⟨(Lib.itoa n).toArray⟩ : ByteArray).size ≤ 21 := by
  show (Lib.itoa n).toArray.size ≤ 21
  rw [List.size_toArray]
  exact Lib.itoa_length_le n (by omega) (by omega)
theorem itoa_nat (n : Int) (m : Nat) (h : n = m) : (⟨(Lib.itoa n).toArray⟩ : ByteArray).data.toList = Lib.decDigits m := by
  subst h
  show Lib.itoa (m : Int) = _
  unfold Lib.itoa
  rw [if_neg (by omega)]
  simp

set_option maxHeartbeats 400000 in
theorem SpanText_no (n : Int) (h : ¬ (0 ≤ n ∧ n ≤ 17592186044416)) (w : World) : Calls Tryd.prog 40 #[.int .i64 n] w fun e w' => e = .returned (.tuple #[.string ⟨#[]⟩, .int .i64 2]) ∧ w = w' := by
  have H := Lib.hid h
  clear h
  go_enter Tryd.func40, Tryd.ntmps40
  go_wp2_with fail
  refine (in_no _ _ _ H.out _).mono ?_
  rintro e w' ⟨rfl, rfl⟩
  go_wp2_with fail
  go_ret2
  exact ⟨rfl, rfl⟩

set_option maxRecDepth 100000 in
set_option maxHeartbeats 4000000 in
theorem SpanText_yes (n : Nat) (h : n ≤ 17592186044416) (w : World) (ht : CalTab w) : Calls Tryd.prog 40 #[.int .i64 (n : Int)] w fun e w' => e = .returned (.tuple #[.string ⟨(spanL n).toArray⟩, .int .i64 0]) ∧ Below w.heap.size w w' := by
  have hi : (n : Int) ≤ 17592186044416 := by omega
  have HT := Lib.hid ht
  clear ht
  by_cases h0 : n = 0
  · subst h0
    clear h
    go_enter Tryd.func40, Tryd.ntmps40
    go_wp2_with fail
    refine (in_yes _ _ _ (by omega) (by omega) _).mono ?_
    rintro e w' ⟨rfl, rfl⟩
    go_wp2_with fail
    go_ret2
    exact ⟨rfl, Below.refl _ _⟩
  · have HSL : Hid (spanL n = spanGo unitsL n) := Lib.hid (by unfold spanL; rw [if_neg h0])
    have hn0 : ((n : Int) == 0) = false := by simp; omega
    have hn1 : ¬ (n : Int) = 0 := by omega
    have hi0 : (0 : Int) ≤ (n : Int) := by omega
    clear h0
    go_enter Tryd.func40, Tryd.ntmps40
    go_wp2_with fail
    refine (in_yes _ _ _ hi0 hi _).mono ?_
    rintro e w' ⟨rfl, rfl⟩
    go_wp2_with fail
    refine (units_any _).mono ?_
    rintro e w1 ⟨rfl, hb1⟩
    have HB1 := Lib.hid hb1
    clear hb1 hn0 hn1
    go_wp2_with fail
    go_loopw [0, 4, 14] (fun t s i wx => ∃ (k : Nat) (sb : ByteArray) (m : Nat), i = .int .i64 (k : Int) ∧ k ≤ 5 ∧ s = .string sb ∧ t = .int .i64 (m : Int) ∧ m ≤ 17592186044416 ∧ sb.size ≤ 30 * k ∧ Hid (sb.data.toList ++ spanGo (unitsL.drop k) m = spanGo unitsL n) ∧ Hid (Below w.heap.size w wx)) (fun _ _ i _ => 5 - (intOf i).toNat)
    case atStart => exact ⟨0, ⟨#[]⟩, n, rfl, by omega, rfl, rfl, h, by decide, Lib.hid rfl, HB1⟩
    case round =>
      obtain ⟨k, sb, m, rfl, hk, rfl, rfl, hm, hsb, HR, HB⟩ := hrel
      have hmi : (m : Int) ≤ 17592186044416 := by omega
      have hm0 : (0 : Int) ≤ (m : Int) := by omega
      have HTW := Lib.hid (HT.out.below HB.out)
      have hk6 : k = 0 ∨ k = 1 ∨ k = 2 ∨ k = 3 ∨ k = 4 ∨ k = 5 := by omega
      obtain ⟨i0, i1, i2, i3, i4⟩ := uIdx wr
      rcases hk6 with rfl | rfl | rfl | rfl | rfl | rfl
      · clear i1 i2 i3 i4 hk
        by_cases hq : m / 86400000 = 0
        · have hq0 : ¬ (0 : Int) < (m : Int) / 86400000 := by omega
          have HQ := Lib.hid hq
          have hmod : (m : Int) % 86400000 = (m : Int) := by omega
          clear hq hmod
          go_wp2_with fail
          go_roundw
          case rel => exact ⟨1, sb, m, by go_num, by omega, rfl, rfl, hm, by omega, Lib.hid (by rw [← HR.out, spanGo_0, if_pos HQ.out]), Lib.hid ((HB.out.alloc HB.out.size _))⟩
          case measure => simp [intOf]
        · have hq0 : (0 : Int) < (m : Int) / 86400000 := by omega
          have HQ := Lib.hid hq
          clear hq
          have HC : Hid (∀ w', Below (wr.alloc (.cells #[.string ⟨#[100]⟩, .int .i64 86400000, .int .i64 0] 60)).heap.size (wr.alloc (.cells #[.string ⟨#[100]⟩, .int .i64 86400000, .int .i64 0] 60)) w' → w'.cell? ⟨wr.heap.size, 0, none⟩ = some (.string ⟨#[100]⟩) ∧ w'.cell? ⟨wr.heap.size, 1, none⟩ = some (.int .i64 86400000)) := Lib.hid fun w' hb => by
            have hl : wr.heap.size < (wr.alloc (.cells #[.string ⟨#[100]⟩, .int .i64 86400000, .int .i64 0] 60)).heap.size := by simp
            rw [hb.cell (p := ⟨wr.heap.size, 0, none⟩) hl, hb.cell (p := ⟨wr.heap.size, 1, none⟩) hl, World.cell?_alloc_new, World.cell?_alloc_new]
            exact ⟨rfl, rfl⟩
          have HW2 : Hid (Below w.heap.size w (wr.alloc (.cells #[.string ⟨#[100]⟩, .int .i64 86400000, .int .i64 0] 60)).drew) := Lib.hid (HB.out.alloc HB.out.size _).drew
          have HBB : Hid (Below (wr.alloc (.cells #[.string ⟨#[100]⟩, .int .i64 86400000, .int .i64 0] 60)).heap.size (wr.alloc (.cells #[.string ⟨#[100]⟩, .int .i64 86400000, .int .i64 0] 60)) (wr.alloc (.cells #[.string ⟨#[100]⟩, .int .i64 86400000, .int .i64 0] 60)).drew) := Lib.hid (Below.refl _ _).drew
          obtain ⟨hc0, hc1⟩ := HC.out _ (Below.refl _ _)
          go_wp2_with fail
          go_region_held3 (fun w' => w'.cell? ⟨wr.heap.size, 0, none⟩ = some (.string ⟨#[100]⟩)) (first | exact hc0 | exact hcc.1) (first
            | (go_at_call 55; refine (Tryd.strconv_Itoa ((m : Int) / 86400000) (by omega) (by omega) _ (HT.out.below HW2.out)).mono ?_; rintro e w' ⟨rfl, kk, os, hw⟩; have hbw := (by rw [hw]; exact below_grow' _ kk os : Below _ _ w'); have HBw := Lib.hid (below_trans HW2.out hbw); have hcc := HC.out _ (below_trans HBB.out hbw); clear hw hbw; obtain ⟨s1, HS1⟩ : ∃ s1 : ByteArray, Hid (s1 = ⟨(Lib.itoa ((m : Int) / 86400000)).toArray⟩) := ⟨_, Lib.hid rfl⟩; rw [← HS1.out]; have hs1 : s1.size ≤ 21 := (by rw [HS1.out]; exact itoa_small _ (by omega) (by omega)); have hz1 : ¬ 9223372036854775807 < s1.size + 1 := (by omega); have hz2 : ¬ 9223372036854775807 < sb.size + (s1.size + 1) := (by omega); have HSD : Hid (s1.data.toList = Lib.decDigits (m / 86400000)) := Lib.hid (by rw [HS1.out]; exact itoa_nat _ _ rfl)))
          obtain ⟨_, hc1'⟩ := hcc
          go_wp2_with fail
          go_roundw
          case rel => exact ⟨1, _, m % 86400000, by go_num, by omega, rfl, by go_num, by omega, by rw [ByteArray.size_append, ByteArray.size_append, show (⟨#[100]⟩ : ByteArray).size = 1 from rfl]; omega, Lib.hid (by rw [← HR.out, spanGo_0, if_neg HQ.out]; simp [HSD.out]), HBw⟩
          case measure => simp [intOf]
      · clear i0 i2 i3 i4 hk
        by_cases hq : m / 3600000 = 0
        · have hq0 : ¬ (0 : Int) < (m : Int) / 3600000 := by omega
          have HQ := Lib.hid hq
          have hmod : (m : Int) % 3600000 = (m : Int) := by omega
          clear hq hmod
          go_wp2_with fail
          go_roundw
          case rel => exact ⟨2, sb, m, by go_num, by omega, rfl, rfl, hm, by omega, Lib.hid (by rw [← HR.out, spanGo_1, if_pos HQ.out]), Lib.hid ((HB.out.alloc HB.out.size _))⟩
          case measure => simp [intOf]
        · have hq0 : (0 : Int) < (m : Int) / 3600000 := by omega
          have HQ := Lib.hid hq
          clear hq
          have HC : Hid (∀ w', Below (wr.alloc (.cells #[.string ⟨#[104]⟩, .int .i64 3600000, .int .i64 23] 60)).heap.size (wr.alloc (.cells #[.string ⟨#[104]⟩, .int .i64 3600000, .int .i64 23] 60)) w' → w'.cell? ⟨wr.heap.size, 0, none⟩ = some (.string ⟨#[104]⟩) ∧ w'.cell? ⟨wr.heap.size, 1, none⟩ = some (.int .i64 3600000)) := Lib.hid fun w' hb => by
            have hl : wr.heap.size < (wr.alloc (.cells #[.string ⟨#[104]⟩, .int .i64 3600000, .int .i64 23] 60)).heap.size := by simp
            rw [hb.cell (p := ⟨wr.heap.size, 0, none⟩) hl, hb.cell (p := ⟨wr.heap.size, 1, none⟩) hl, World.cell?_alloc_new, World.cell?_alloc_new]
            exact ⟨rfl, rfl⟩
          have HW2 : Hid (Below w.heap.size w (wr.alloc (.cells #[.string ⟨#[104]⟩, .int .i64 3600000, .int .i64 23] 60)).drew) := Lib.hid (HB.out.alloc HB.out.size _).drew
          have HBB : Hid (Below (wr.alloc (.cells #[.string ⟨#[104]⟩, .int .i64 3600000, .int .i64 23] 60)).heap.size (wr.alloc (.cells #[.string ⟨#[104]⟩, .int .i64 3600000, .int .i64 23] 60)) (wr.alloc (.cells #[.string ⟨#[104]⟩, .int .i64 3600000, .int .i64 23] 60)).drew) := Lib.hid (Below.refl _ _).drew
          obtain ⟨hc0, hc1⟩ := HC.out _ (Below.refl _ _)
          go_wp2_with fail
          go_region_held3 (fun w' => w'.cell? ⟨wr.heap.size, 0, none⟩ = some (.string ⟨#[104]⟩)) (first | exact hc0 | exact hcc.1) (first
            | (go_at_call 55; refine (Tryd.strconv_Itoa ((m : Int) / 3600000) (by omega) (by omega) _ (HT.out.below HW2.out)).mono ?_; rintro e w' ⟨rfl, kk, os, hw⟩; have hbw := (by rw [hw]; exact below_grow' _ kk os : Below _ _ w'); have HBw := Lib.hid (below_trans HW2.out hbw); have hcc := HC.out _ (below_trans HBB.out hbw); clear hw hbw; obtain ⟨s1, HS1⟩ : ∃ s1 : ByteArray, Hid (s1 = ⟨(Lib.itoa ((m : Int) / 3600000)).toArray⟩) := ⟨_, Lib.hid rfl⟩; rw [← HS1.out]; have hs1 : s1.size ≤ 21 := (by rw [HS1.out]; exact itoa_small _ (by omega) (by omega)); have hz1 : ¬ 9223372036854775807 < s1.size + 1 := (by omega); have hz2 : ¬ 9223372036854775807 < sb.size + (s1.size + 1) := (by omega); have HSD : Hid (s1.data.toList = Lib.decDigits (m / 3600000)) := Lib.hid (by rw [HS1.out]; exact itoa_nat _ _ rfl)))
          obtain ⟨_, hc1'⟩ := hcc
          go_wp2_with fail
          go_roundw
          case rel => exact ⟨2, _, m % 3600000, by go_num, by omega, rfl, by go_num, by omega, by rw [ByteArray.size_append, ByteArray.size_append, show (⟨#[104]⟩ : ByteArray).size = 1 from rfl]; omega, Lib.hid (by rw [← HR.out, spanGo_1, if_neg HQ.out]; simp [HSD.out]), HBw⟩
          case measure => simp [intOf]
      · clear i0 i1 i3 i4 hk
        by_cases hq : m / 60000 = 0
        · have hq0 : ¬ (0 : Int) < (m : Int) / 60000 := by omega
          have HQ := Lib.hid hq
          have hmod : (m : Int) % 60000 = (m : Int) := by omega
          clear hq hmod
          go_wp2_with fail
          go_roundw
          case rel => exact ⟨3, sb, m, by go_num, by omega, rfl, rfl, hm, by omega, Lib.hid (by rw [← HR.out, spanGo_2, if_pos HQ.out]), Lib.hid ((HB.out.alloc HB.out.size _))⟩
          case measure => simp [intOf]
        · have hq0 : (0 : Int) < (m : Int) / 60000 := by omega
          have HQ := Lib.hid hq
          clear hq
          have HC : Hid (∀ w', Below (wr.alloc (.cells #[.string ⟨#[109]⟩, .int .i64 60000, .int .i64 59] 60)).heap.size (wr.alloc (.cells #[.string ⟨#[109]⟩, .int .i64 60000, .int .i64 59] 60)) w' → w'.cell? ⟨wr.heap.size, 0, none⟩ = some (.string ⟨#[109]⟩) ∧ w'.cell? ⟨wr.heap.size, 1, none⟩ = some (.int .i64 60000)) := Lib.hid fun w' hb => by
            have hl : wr.heap.size < (wr.alloc (.cells #[.string ⟨#[109]⟩, .int .i64 60000, .int .i64 59] 60)).heap.size := by simp
            rw [hb.cell (p := ⟨wr.heap.size, 0, none⟩) hl, hb.cell (p := ⟨wr.heap.size, 1, none⟩) hl, World.cell?_alloc_new, World.cell?_alloc_new]
            exact ⟨rfl, rfl⟩
          have HW2 : Hid (Below w.heap.size w (wr.alloc (.cells #[.string ⟨#[109]⟩, .int .i64 60000, .int .i64 59] 60)).drew) := Lib.hid (HB.out.alloc HB.out.size _).drew
          have HBB : Hid (Below (wr.alloc (.cells #[.string ⟨#[109]⟩, .int .i64 60000, .int .i64 59] 60)).heap.size (wr.alloc (.cells #[.string ⟨#[109]⟩, .int .i64 60000, .int .i64 59] 60)) (wr.alloc (.cells #[.string ⟨#[109]⟩, .int .i64 60000, .int .i64 59] 60)).drew) := Lib.hid (Below.refl _ _).drew
          obtain ⟨hc0, hc1⟩ := HC.out _ (Below.refl _ _)
          go_wp2_with fail
          go_region_held3 (fun w' => w'.cell? ⟨wr.heap.size, 0, none⟩ = some (.string ⟨#[109]⟩)) (first | exact hc0 | exact hcc.1) (first
            | (go_at_call 55; refine (Tryd.strconv_Itoa ((m : Int) / 60000) (by omega) (by omega) _ (HT.out.below HW2.out)).mono ?_; rintro e w' ⟨rfl, kk, os, hw⟩; have hbw := (by rw [hw]; exact below_grow' _ kk os : Below _ _ w'); have HBw := Lib.hid (below_trans HW2.out hbw); have hcc := HC.out _ (below_trans HBB.out hbw); clear hw hbw; obtain ⟨s1, HS1⟩ : ∃ s1 : ByteArray, Hid (s1 = ⟨(Lib.itoa ((m : Int) / 60000)).toArray⟩) := ⟨_, Lib.hid rfl⟩; rw [← HS1.out]; have hs1 : s1.size ≤ 21 := (by rw [HS1.out]; exact itoa_small _ (by omega) (by omega)); have hz1 : ¬ 9223372036854775807 < s1.size + 1 := (by omega); have hz2 : ¬ 9223372036854775807 < sb.size + (s1.size + 1) := (by omega); have HSD : Hid (s1.data.toList = Lib.decDigits (m / 60000)) := Lib.hid (by rw [HS1.out]; exact itoa_nat _ _ rfl)))
          obtain ⟨_, hc1'⟩ := hcc
          go_wp2_with fail
          go_roundw
          case rel => exact ⟨3, _, m % 60000, by go_num, by omega, rfl, by go_num, by omega, by rw [ByteArray.size_append, ByteArray.size_append, show (⟨#[109]⟩ : ByteArray).size = 1 from rfl]; omega, Lib.hid (by rw [← HR.out, spanGo_2, if_neg HQ.out]; simp [HSD.out]), HBw⟩
          case measure => simp [intOf]
      · clear i0 i1 i2 i4 hk
        by_cases hq : m / 1000 = 0
        · have hq0 : ¬ (0 : Int) < (m : Int) / 1000 := by omega
          have HQ := Lib.hid hq
          have hmod : (m : Int) % 1000 = (m : Int) := by omega
          clear hq hmod
          go_wp2_with fail
          go_roundw
          case rel => exact ⟨4, sb, m, by go_num, by omega, rfl, rfl, hm, by omega, Lib.hid (by rw [← HR.out, spanGo_3, if_pos HQ.out]), Lib.hid ((HB.out.alloc HB.out.size _))⟩
          case measure => simp [intOf]
        · have hq0 : (0 : Int) < (m : Int) / 1000 := by omega
          have HQ := Lib.hid hq
          clear hq
          have HC : Hid (∀ w', Below (wr.alloc (.cells #[.string ⟨#[115]⟩, .int .i64 1000, .int .i64 59] 60)).heap.size (wr.alloc (.cells #[.string ⟨#[115]⟩, .int .i64 1000, .int .i64 59] 60)) w' → w'.cell? ⟨wr.heap.size, 0, none⟩ = some (.string ⟨#[115]⟩) ∧ w'.cell? ⟨wr.heap.size, 1, none⟩ = some (.int .i64 1000)) := Lib.hid fun w' hb => by
            have hl : wr.heap.size < (wr.alloc (.cells #[.string ⟨#[115]⟩, .int .i64 1000, .int .i64 59] 60)).heap.size := by simp
            rw [hb.cell (p := ⟨wr.heap.size, 0, none⟩) hl, hb.cell (p := ⟨wr.heap.size, 1, none⟩) hl, World.cell?_alloc_new, World.cell?_alloc_new]
            exact ⟨rfl, rfl⟩
          have HW2 : Hid (Below w.heap.size w (wr.alloc (.cells #[.string ⟨#[115]⟩, .int .i64 1000, .int .i64 59] 60)).drew) := Lib.hid (HB.out.alloc HB.out.size _).drew
          have HBB : Hid (Below (wr.alloc (.cells #[.string ⟨#[115]⟩, .int .i64 1000, .int .i64 59] 60)).heap.size (wr.alloc (.cells #[.string ⟨#[115]⟩, .int .i64 1000, .int .i64 59] 60)) (wr.alloc (.cells #[.string ⟨#[115]⟩, .int .i64 1000, .int .i64 59] 60)).drew) := Lib.hid (Below.refl _ _).drew
          obtain ⟨hc0, hc1⟩ := HC.out _ (Below.refl _ _)
          go_wp2_with fail
          go_region_held3 (fun w' => w'.cell? ⟨wr.heap.size, 0, none⟩ = some (.string ⟨#[115]⟩)) (first | exact hc0 | exact hcc.1) (first
            | (go_at_call 55; refine (Tryd.strconv_Itoa ((m : Int) / 1000) (by omega) (by omega) _ (HT.out.below HW2.out)).mono ?_; rintro e w' ⟨rfl, kk, os, hw⟩; have hbw := (by rw [hw]; exact below_grow' _ kk os : Below _ _ w'); have HBw := Lib.hid (below_trans HW2.out hbw); have hcc := HC.out _ (below_trans HBB.out hbw); clear hw hbw; obtain ⟨s1, HS1⟩ : ∃ s1 : ByteArray, Hid (s1 = ⟨(Lib.itoa ((m : Int) / 1000)).toArray⟩) := ⟨_, Lib.hid rfl⟩; rw [← HS1.out]; have hs1 : s1.size ≤ 21 := (by rw [HS1.out]; exact itoa_small _ (by omega) (by omega)); have hz1 : ¬ 9223372036854775807 < s1.size + 1 := (by omega); have hz2 : ¬ 9223372036854775807 < sb.size + (s1.size + 1) := (by omega); have HSD : Hid (s1.data.toList = Lib.decDigits (m / 1000)) := Lib.hid (by rw [HS1.out]; exact itoa_nat _ _ rfl)))
          obtain ⟨_, hc1'⟩ := hcc
          go_wp2_with fail
          go_roundw
          case rel => exact ⟨4, _, m % 1000, by go_num, by omega, rfl, by go_num, by omega, by rw [ByteArray.size_append, ByteArray.size_append, show (⟨#[115]⟩ : ByteArray).size = 1 from rfl]; omega, Lib.hid (by rw [← HR.out, spanGo_3, if_neg HQ.out]; simp [HSD.out]), HBw⟩
          case measure => simp [intOf]
      · clear i0 i1 i2 i3 hk
        by_cases hq : m / 1 = 0
        · have hq0 : ¬ (0 : Int) < (m : Int) := by omega
          have HQ := Lib.hid hq
          have hmod : (m : Int) % 1 = (m : Int) := by omega
          clear hq hmod
          go_wp2_with fail
          go_roundw
          case rel => exact ⟨5, sb, m, by go_num, by omega, rfl, rfl, hm, by omega, Lib.hid (by rw [← HR.out, spanGo_4, if_pos HQ.out]), Lib.hid ((HB.out.alloc HB.out.size _))⟩
          case measure => simp [intOf]
        · have hq0 : (0 : Int) < (m : Int) := by omega
          have HQ := Lib.hid hq
          clear hq
          have HC : Hid (∀ w', Below (wr.alloc (.cells #[.string ⟨#[109, 115]⟩, .int .i64 1, .int .i64 999] 60)).heap.size (wr.alloc (.cells #[.string ⟨#[109, 115]⟩, .int .i64 1, .int .i64 999] 60)) w' → w'.cell? ⟨wr.heap.size, 0, none⟩ = some (.string ⟨#[109, 115]⟩) ∧ w'.cell? ⟨wr.heap.size, 1, none⟩ = some (.int .i64 1)) := Lib.hid fun w' hb => by
            have hl : wr.heap.size < (wr.alloc (.cells #[.string ⟨#[109, 115]⟩, .int .i64 1, .int .i64 999] 60)).heap.size := by simp
            rw [hb.cell (p := ⟨wr.heap.size, 0, none⟩) hl, hb.cell (p := ⟨wr.heap.size, 1, none⟩) hl, World.cell?_alloc_new, World.cell?_alloc_new]
            exact ⟨rfl, rfl⟩
          have HW2 : Hid (Below w.heap.size w (wr.alloc (.cells #[.string ⟨#[109, 115]⟩, .int .i64 1, .int .i64 999] 60)).drew) := Lib.hid (HB.out.alloc HB.out.size _).drew
          have HBB : Hid (Below (wr.alloc (.cells #[.string ⟨#[109, 115]⟩, .int .i64 1, .int .i64 999] 60)).heap.size (wr.alloc (.cells #[.string ⟨#[109, 115]⟩, .int .i64 1, .int .i64 999] 60)) (wr.alloc (.cells #[.string ⟨#[109, 115]⟩, .int .i64 1, .int .i64 999] 60)).drew) := Lib.hid (Below.refl _ _).drew
          obtain ⟨hc0, hc1⟩ := HC.out _ (Below.refl _ _)
          go_wp2_with fail
          go_region_held3 (fun w' => w'.cell? ⟨wr.heap.size, 0, none⟩ = some (.string ⟨#[109, 115]⟩)) (first | exact hc0 | exact hcc.1) (first
            | (go_at_call 55; refine (Tryd.strconv_Itoa (m : Int) (by omega) (by omega) _ (HT.out.below HW2.out)).mono ?_; rintro e w' ⟨rfl, kk, os, hw⟩; have hbw := (by rw [hw]; exact below_grow' _ kk os : Below _ _ w'); have HBw := Lib.hid (below_trans HW2.out hbw); have hcc := HC.out _ (below_trans HBB.out hbw); clear hw hbw; obtain ⟨s1, HS1⟩ : ∃ s1 : ByteArray, Hid (s1 = ⟨(Lib.itoa (m : Int)).toArray⟩) := ⟨_, Lib.hid rfl⟩; rw [← HS1.out]; have hs1 : s1.size ≤ 21 := (by rw [HS1.out]; exact itoa_small _ (by omega) (by omega)); have hz1 : ¬ 9223372036854775807 < s1.size + 2 := (by omega); have hz2 : ¬ 9223372036854775807 < sb.size + (s1.size + 2) := (by omega); have HSD : Hid (s1.data.toList = Lib.decDigits (m / 1)) := Lib.hid (by rw [HS1.out]; exact itoa_nat _ _ (by rw [Nat.div_one]))))
          obtain ⟨_, hc1'⟩ := hcc
          go_wp2_with fail
          go_roundw
          case rel => exact ⟨5, _, m % 1, by go_num, by omega, rfl, by go_num, by omega, by rw [ByteArray.size_append, ByteArray.size_append, show (⟨#[109, 115]⟩ : ByteArray).size = 2 from rfl]; omega, Lib.hid (by rw [← HR.out, spanGo_4, if_neg HQ.out]; simp [HSD.out]), HBw⟩
          case measure => simp [intOf]
      · clear i0 i1 i2 i3 i4
        have HE : Hid (sb = ⟨(spanL n).toArray⟩) := Lib.hid (str_ext (by
          rw [HSL.out, ← HR.out]
          show _ = sb.data.toList ++ []
          rw [List.append_nil]))
        go_wp2_with fail
        go_ret2
        exact ⟨ret2_str HE.out, HB.out⟩

end Go.Proofs.YthkkjfofpoifiaaDoor
