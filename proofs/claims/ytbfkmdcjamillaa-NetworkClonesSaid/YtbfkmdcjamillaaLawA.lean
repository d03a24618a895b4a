/- The walk of the law NetworkDelays. -/
import Derived.Test.YtbfkmdcjamillaaNetK
namespace Go.Proofs.Ytbfkmdcjamillaa
open Go.RowKit Go.Maps

set_option maxHeartbeats 1000000 in
set_option maxRecDepth 100000 in
theorem mdelays_none (b : UInt8) (h : b.toNat % 4 = 3) (w : World) :
    Calls Try.prog 14 #[.int .u8 b.toNat] w fun e w' => e = .returned (.slice none 0 0) ∧ w = w' := by
  have hb : (b.toNat : Int) < 256 := by have := b.toNat_lt; omega
  have hb0 : (0 : Int) ≤ (b.toNat : Int) := by omega
  have h' : (b.toNat : Int) % 4 = 3 := by omega
  clear h
  generalize (b.toNat : Int) = z at *
  have e3 : (z % 4 == 3) = true := by simpa using h'
  clear h'
  go_enter Try.func14, Try.ntmps14
  go_wp2
  go_ret
  exact ⟨rfl, rfl⟩

set_option maxHeartbeats 1000000 in
set_option maxRecDepth 100000 in
theorem mdelays_two (b : UInt8) (h : b.toNat % 4 = 2) (w : World) :
    Calls Try.prog 14 #[.int .u8 b.toNat] w fun e w' => e = .returned (.slice (some ⟨w.heap.size, 0, none⟩) 2 2) ∧ w.alloc (.cells #[.int .i64 (d0 b), .int .i64 (d1 b)] 3) = w' := by
  have hb : (b.toNat : Int) < 256 := by have := b.toNat_lt; omega
  have hb0 : (0 : Int) ≤ (b.toNat : Int) := by omega
  unfold d0 d1
  have h' : (b.toNat : Int) % 4 = 2 := by omega
  clear h
  generalize (b.toNat : Int) = z at *
  have e3 : (z % 4 == 3) = false := by rw [beq_eq_false_iff_ne]; omega
  have e2 : (z % 4 == 2) = true := by simpa using h'
  clear h'
  go_enter Try.func14, Try.ntmps14
  go_wp2
  go_ret
  exact ⟨rfl, rfl⟩

set_option maxHeartbeats 1000000 in
set_option maxRecDepth 100000 in
theorem mdelays_one (b : UInt8) (h : b.toNat % 4 ≠ 3) (h2 : b.toNat % 4 ≠ 2) (w : World) :
    Calls Try.prog 14 #[.int .u8 b.toNat] w fun e w' => e = .returned (.slice (some ⟨w.heap.size, 0, none⟩) 1 1) ∧ w.alloc (.cells #[.int .i64 (d0 b)] 3) = w' := by
  have hb : (b.toNat : Int) < 256 := by have := b.toNat_lt; omega
  have hb0 : (0 : Int) ≤ (b.toNat : Int) := by omega
  unfold d0
  have h' : (b.toNat : Int) % 4 ≠ 3 := by omega
  have h2' : (b.toNat : Int) % 4 ≠ 2 := by omega
  clear h h2
  generalize (b.toNat : Int) = z at *
  have e3 : (z % 4 == 3) = false := by rw [beq_eq_false_iff_ne]; exact h'
  have e2 : (z % 4 == 2) = false := by rw [beq_eq_false_iff_ne]; exact h2'
  clear h' h2'
  go_enter Try.func14, Try.ntmps14
  go_wp2
  go_ret
  exact ⟨rfl, rfl⟩


theorem d0_bd (b : UInt8) : 1 ≤ d0 b ∧ d0 b ≤ 8 := by
  have hb : (b.toNat : Int) < 256 := by have := b.toNat_lt; omega
  unfold d0; omega
theorem d1_bd (b : UInt8) : 1 ≤ d1 b ∧ d1 b ≤ 8 := by
  have hb : (b.toNat : Int) < 256 := by have := b.toNat_lt; omega
  unfold d1; omega

set_option maxRecDepth 100000 in
set_option maxHeartbeats 2000000 in
theorem lawDelays (b : UInt8) (w : World) : Calls Try.prog 3 #[.int .u8 b.toNat] w fun e w' => e = .returned (.bool true) ∧ Below w.heap.size w w' := by
  by_cases h : b.toNat % 4 = 3
  · have H := Lib.hid h
    clear h
    go_enter Try.func3, Try.ntmps3
    go_wp2_with fail
    refine (delays_none b H.out w).mono ?_
    rintro e w1 ⟨rfl, rfl⟩
    go_wp2_with fail
    refine (mdelays_none b H.out w).mono ?_
    rintro e w1 ⟨rfl, rfl⟩
    go_wp2_with fail
    refine (known_any w).mono ?_
    rintro e w1 ⟨rfl, hb⟩
    have HB := Lib.hid hb
    clear hb
    go_wp2_with fail
    refine wp_loop_rounds 1 ?_
    rw [rounds_succ]
    go_wp2_with fail
    go_ret
    exact ⟨rfl, HB.out⟩
  · by_cases h2 : b.toNat % 4 = 2
    · have H := Lib.hid h2
      clear h h2
      obtain ⟨p1, p2⟩ := d0_bd b
      obtain ⟨q1, q2⟩ := d1_bd b
      go_enter Try.func3, Try.ntmps3
      go_wp2_with fail
      refine (delays_two b H.out w).mono ?_
      rintro e w1 ⟨rfl, rfl⟩
      go_wp2_with fail
      refine (mdelays_two b H.out _).mono ?_
      rintro e w1 ⟨rfl, rfl⟩
      go_wp2_with fail
      refine (known_any _).mono ?_
      rintro e w1 ⟨rfl, hb⟩
      simp only [World.size_alloc] at hb
      have k0 : w1.cell? ⟨w.heap.size, 0, none⟩ = some (.int .i64 (d0 b)) := (hb.cell (p := ⟨w.heap.size, 0, none⟩) (by simp; omega)).trans (((Blk.new w 3 #[.int .i64 (d0 b), .int .i64 (d1 b)]).alloc _).cell 0)
      have k1 : w1.cell? ⟨w.heap.size, 1, none⟩ = some (.int .i64 (d1 b)) := (hb.cell (p := ⟨w.heap.size, 1, none⟩) (by simp; omega)).trans (((Blk.new w 3 #[.int .i64 (d0 b), .int .i64 (d1 b)]).alloc _).cell 1)
      have hbn := Blk.new (w.alloc (.cells #[.int .i64 (d0 b), .int .i64 (d1 b)] 3)) 3 #[.int .i64 (d0 b), .int .i64 (d1 b)]
      simp only [World.size_alloc] at hbn
      have m0 : w1.cell? ⟨w.heap.size + 1, 0, none⟩ = some (.int .i64 (d0 b)) := (hb.cell (p := ⟨w.heap.size + 1, 0, none⟩) (by simp)).trans (hbn.cell 0)
      have m1 : w1.cell? ⟨w.heap.size + 1, 1, none⟩ = some (.int .i64 (d1 b)) := (hb.cell (p := ⟨w.heap.size + 1, 1, none⟩) (by simp)).trans (hbn.cell 1)
      have HB : Hid (Below w.heap.size w w1) := (((Below.refl _ w).alloc (Nat.le_refl _) _).alloc (by simp) _).trans (hb.mono (by omega))
      clear hb hbn
      go_wp2_with fail
      refine wp_loop_rounds 3 ?_
      rw [rounds_succ]
      go_wp2_with fail
      go_quiet (fail)
      go_wp2_with fail
      rw [rounds_succ]
      go_wp2_with fail
      go_quiet (fail)
      go_wp2_with fail
      rw [rounds_succ]
      go_wp2_with fail
      go_ret
      exact ⟨rfl, below_drewN HB.out _⟩
    · have H := Lib.hid h
      have H2 := Lib.hid h2
      clear h h2
      obtain ⟨p1, p2⟩ := d0_bd b
      go_enter Try.func3, Try.ntmps3
      go_wp2_with fail
      refine (delays_one b H.out H2.out w).mono ?_
      rintro e w1 ⟨rfl, rfl⟩
      go_wp2_with fail
      refine (mdelays_one b H.out H2.out _).mono ?_
      rintro e w1 ⟨rfl, rfl⟩
      go_wp2_with fail
      refine (known_any _).mono ?_
      rintro e w1 ⟨rfl, hb⟩
      simp only [World.size_alloc] at hb
      have k0 : w1.cell? ⟨w.heap.size, 0, none⟩ = some (.int .i64 (d0 b)) := (hb.cell (p := ⟨w.heap.size, 0, none⟩) (by simp; omega)).trans (((Blk.new w 3 #[.int .i64 (d0 b)]).alloc _).cell 0)
      have hbn := Blk.new (w.alloc (.cells #[.int .i64 (d0 b)] 3)) 3 #[.int .i64 (d0 b)]
      simp only [World.size_alloc] at hbn
      have m0 : w1.cell? ⟨w.heap.size + 1, 0, none⟩ = some (.int .i64 (d0 b)) := (hb.cell (p := ⟨w.heap.size + 1, 0, none⟩) (by simp)).trans (hbn.cell 0)
      have HB : Hid (Below w.heap.size w w1) := (((Below.refl _ w).alloc (Nat.le_refl _) _).alloc (by simp) _).trans (hb.mono (by omega))
      clear hb hbn
      go_wp2_with fail
      refine wp_loop_rounds 2 ?_
      rw [rounds_succ]
      go_wp2_with fail
      go_quiet (fail)
      go_wp2_with fail
      rw [rounds_succ]
      go_wp2_with fail
      go_ret
      exact ⟨rfl, below_drewN HB.out _⟩

end Go.Proofs.Ytbfkmdcjamillaa
