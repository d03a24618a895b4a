/- Calendar: contracts of the reference's digits and Text; the law CalendarTexts. -/
import Derived.Test.YthkkjfofpoifiaaDoorCalO
import Derived.Laws.BytesArg
namespace Go.Proofs.YthkkjfofpoifiaaDoor
open Go.RowKit

theorem conv1 (x : Nat) (_hx : x < 256) (w : World) :
    (convert 66 9 (.slice (some ⟨w.heap.size, 0, none⟩) 1 1)).run Tryd.prog (w.alloc (.cells #[.int .u8 (x : Int)] 5)) =
      .ok (.string ⟨#[UInt8.ofNat x]⟩) (w.alloc (.cells #[.int .u8 (x : Int)] 5)) := by
  have e : strOfNums [(x : Int)] = ⟨#[UInt8.ofNat x]⟩ := by
    unfold strOfNums
    simp
  rw [← e]
  refine run_convert_bytes_arg (P := Tryd.prog) _ 66 5 Tryd.underlying66 Tryd.underlying5 w.heap.size 0 1 1 [(x : Int)] rfl (fun i hi => ?_) 9 Tryd.underlying9
  rw [World.cell?_alloc_mark, Nat.zero_add]
  have : i = 0 := by omega
  subst this
  rfl
theorem conv_digit (u : Nat) (w : World) :
    (convert 66 9 (.slice (some ⟨w.heap.size, 0, none⟩) 1 1)).run Tryd.prog (w.alloc (.cells #[.int .u8 (48 + (u : Int) % 10)] 5)) =
      .ok (.string ⟨#[UInt8.ofNat (48 + u % 10)]⟩) (w.alloc (.cells #[.int .u8 (48 + (u : Int) % 10)] 5)) := conv1 (48 + u % 10) (by omega) w

set_option maxRecDepth 100000 in
set_option maxHeartbeats 2000000 in
theorem rDigits_any (n k : Nat) (hn : n ≤ 1000000000) (hk : k ≤ 9) (w : World) : Calls Tryd.prog 49 #[.int .i64 (n : Int), .int .i64 (k : Int)] w fun e w' => e = .returned (.string ⟨(dgs n k).toArray⟩) ∧ Below w.heap.size w w' := by
  go_enter Tryd.func49, Tryd.ntmps49
  go_wp2_with fail
  go_loopw [0, 5, 6] (fun t s i wx => ∃ (j u : Nat) (r : ByteArray), i = .int .i64 (j : Int) ∧ j ≤ k ∧ t = .int .i64 (u : Int) ∧ u ≤ 1000000000 ∧ s = .string r ∧ r.size ≤ j ∧ Hid (dgs u (k - j) ++ r.data.toList = dgs n k) ∧ Hid (Below w.heap.size w wx)) (fun _ _ i _ => k - (intOf i).toNat)
  case atStart => exact ⟨0, n, ⟨#[]⟩, rfl, Nat.zero_le _, rfl, hn, rfl, Nat.le_refl _, Lib.hid (by simp), Lib.hid (Below.refl _ _)⟩
  case round =>
    obtain ⟨j, u, r, rfl, hj, rfl, hu, rfl, hr, HR, HB⟩ := hrel
    by_cases hjk : j < k
    · have hjI : (j : Int) < (k : Int) := by omega
      have hu0 : (0 : Int) ≤ (u : Int) := by omega
      have huI : (u : Int) ≤ 1000000000 := by omega
      have hm0 : (0 : Int) ≤ (u : Int) % 10 := by omega
      have hm9 : (u : Int) % 10 ≤ 9 := by omega
      have hcv := conv_digit u wr
      have HST : Hid (dgs (u / 10) (k - (j + 1)) ++ (UInt8.ofNat (48 + u % 10) :: r.data.toList) = dgs n k) := Lib.hid (by
        rw [← HR.out, show k - j = (k - (j + 1)) + 1 by omega, dgs, List.append_assoc]
        rfl)
      have hz : ¬ 9223372036854775807 < 1 + r.size := by omega
      go_wp2_with fail
      go_roundw
      case rel => exact ⟨j + 1, u / 10, _, by go_num, by omega, by go_num, by omega, rfl, by rw [ByteArray.size_append]; show 1 + r.size ≤ _; omega, Lib.hid (by rw [← HST.out]; simp), Lib.hid (HB.out.alloc HB.out.size _)⟩
      case measure => simp [intOf]; omega
    · obtain rfl : k = j := by omega
      have HE : Hid (r = ⟨(dgs n k).toArray⟩) := Lib.hid (str_ext (by
        have := HR.out
        rw [Nat.sub_self] at this
        exact this))
      go_wp2_with fail
      go_ret
      exact ⟨ret_str HE.out, HB.out⟩

theorem rDigits4 (n : Nat) (hn : n ≤ 1000000000) (w : World) : Calls Tryd.prog 49 #[.int .i64 (n : Int), .int .i64 4] w fun e w' => e = .returned (.string ⟨(dgs n 4).toArray⟩) ∧ Below w.heap.size w w' := rDigits_any n 4 hn (by omega) w
theorem rDigits2 (n : Nat) (hn : n ≤ 1000000000) (w : World) : Calls Tryd.prog 49 #[.int .i64 (n : Int), .int .i64 2] w fun e w' => e = .returned (.string ⟨(dgs n 2).toArray⟩) ∧ Below w.heap.size w w' := rDigits_any n 2 hn (by omega) w
theorem rDigits3 (n : Nat) (hn : n ≤ 1000000000) (w : World) : Calls Tryd.prog 49 #[.int .i64 (n : Int), .int .i64 3] w fun e w' => e = .returned (.string ⟨(dgs n 3).toArray⟩) ∧ Below w.heap.size w w' := rDigits_any n 3 hn (by omega) w
theorem rDigits1 (n : Nat) (hn : n ≤ 1000000000) (w : World) : Calls Tryd.prog 49 #[.int .i64 (n : Int), .int .i64 1] w fun e w' => e = .returned (.string ⟨(dgs n 1).toArray⟩) ∧ Below w.heap.size w w' := rDigits_any n 1 hn (by omega) w

/-- What the reference's Text returns. -/
def RTextPost (n : Int) (w : World) (e : Ending) (w' : World) : Prop := ∃ y m d : Nat, Date y m d ∧ dnum y m d = n ∧ e = .returned (.string ⟨(dateL y m d).toArray⟩) ∧ Below w.heap.size w w'
set_option maxRecDepth 100000 in
set_option maxHeartbeats 1000000 in
theorem rText_yes (n : Int) (h1 : -719162 ≤ n) (h2 : n ≤ 2932896) (w : World) : Calls Tryd.prog 32 #[.int .i64 n] w (RTextPost n w) := by
  go_enter Tryd.func32, Tryd.ntmps32
  go_wp2_with fail
  refine (rCivil_yes n h1 h2 _).mono ?_
  rintro e w1 ⟨y, m, d, hd, hn, rfl, hb1⟩
  obtain ⟨y, m, d, rfl, rfl, rfl, hy, hm, hdd⟩ := hd.nat
  have HD := Lib.hid hd
  have HN := Lib.hid hn
  have HB1 := Lib.hid hb1
  clear hd hn hb1
  go_wp2_with fail
  refine (rDigits4 y (by omega) _).mono ?_
  rintro e w2 ⟨rfl, hb2⟩
  have HB2 := Lib.hid (below_trans HB1.out hb2)
  clear hb2
  go_wp2_with fail
  refine (rDigits2 m (by omega) _).mono ?_
  rintro e w3 ⟨rfl, hb3⟩
  have HB3 := Lib.hid (below_trans HB2.out hb3)
  clear hb3
  go_wp2_with fail
  refine (rDigits2 d (by omega) _).mono ?_
  rintro e w4 ⟨rfl, hb4⟩
  have HB4 := Lib.hid (below_trans HB3.out hb4)
  clear hb4
  go_wp2_with fail
  go_ret
  exact ⟨y, m, d, HD.out, HN.out, ret_str (by apply str_ext; simp [dateL]), HB4.out⟩

set_option maxRecDepth 100000 in
set_option maxHeartbeats 2000000 in
theorem lawTexts (n : Int) (w : World) (ht : CalTab w) : Calls Tryd.prog 9 #[.int .i64 n] w fun e w' => e = .returned (.bool true) ∧ Below w.heap.size w w' := by
  have HT := Lib.hid ht
  clear ht
  by_cases h : -719162 ≤ n ∧ n ≤ 2932896
  · obtain ⟨n1, n2⟩ := h
    go_enter Tryd.func9, Tryd.ntmps9
    go_wp2_with fail
    refine (known_any _ HT.out).mono ?_
    rintro e w1 ⟨rfl, hb1⟩
    have HB1 := Lib.hid hb1
    have HT1 := Lib.hid (HT.out.below hb1)
    clear hb1
    go_wp2_with fail
    refine (Text_yes n n1 n2 _ HT1.out).mono ?_
    rintro e w2 ⟨y, m, d, hd, hn, rfl, hb2⟩
    have HB2 := Lib.hid (below_trans HB1.out hb2)
    obtain ⟨y', m', d', e1, e2, e3, hy, hm, hdd⟩ := hd.nat
    have HD := Lib.hid hd
    have HN := Lib.hid hn
    have HP : Hid (calP (dateL y m d) = (n, 0)) := Lib.hid (by rw [← hn]; exact calP_date hd (by omega) (by omega) (by omega))
    obtain ⟨s, HS⟩ : ∃ s : ByteArray, Hid (s = ⟨(dateL y m d).toArray⟩) := ⟨_, Lib.hid rfl⟩
    have HSD : Hid (s.data.toList = dateL y m d) := Lib.hid (by rw [HS.out])
    have hsz : s.size ≤ 9223372036854775807 := by rw [← size_len, HSD.out, dateL_len]; omega
    rw [← HS.out]
    clear hb2 hd hn e1 e2 e3
    go_wp2_with fail
    refine (rIn_yes n n1 n2 _).mono ?_
    rintro e w' ⟨rfl, rfl⟩
    go_wp2_with fail
    refine (Parse_any s hsz _).mono ?_
    rw [HSD.out, HP.out]
    rintro e w3 ⟨rfl, hb3⟩
    have HB3 := Lib.hid (below_trans HB2.out hb3)
    clear hb3
    go_wp2_with fail
    refine (rText_yes n n1 n2 _).mono ?_
    rintro e w4 ⟨y3, m3, d3, hd, hn, rfl, hb4⟩
    obtain ⟨e1, e2, e3⟩ := hd.inj HD.out (hn.trans HN.out.symm)
    obtain rfl : y3 = y := by omega
    obtain rfl : m3 = m := by omega
    obtain rfl : d3 = d := by omega
    rw [← HS.out]
    have HB4 := Lib.hid (below_trans HB3.out hb4)
    clear hb4 hd hn e1 e2 e3
    go_wp2_with fail
    go_ret
    exact ⟨rfl, HB4.out⟩
  · have HN := Lib.hid h
    clear h
    go_enter Tryd.func9, Tryd.ntmps9
    go_wp2_with fail
    refine (known_any _ HT.out).mono ?_
    rintro e w1 ⟨rfl, hb1⟩
    have HB1 := Lib.hid hb1
    clear hb1
    go_wp2_with fail
    refine (Text_no n HN.out _).mono ?_
    rintro e w' ⟨rfl, rfl⟩
    go_wp2_with fail
    refine (rIn_no n HN.out _).mono ?_
    rintro e w' ⟨rfl, rfl⟩
    go_wp2_with fail
    go_ret
    exact ⟨rfl, HB1.out⟩

end Go.Proofs.YthkkjfofpoifiaaDoor
