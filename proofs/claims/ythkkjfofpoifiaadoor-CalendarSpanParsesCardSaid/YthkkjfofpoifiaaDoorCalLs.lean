/- Calendar: the laws CalendarSpans and CalendarSpanParses. -/
import Derived.Test.YthkkjfofpoifiaaDoorCalRq
namespace Go.Proofs.YthkkjfofpoifiaaDoor
open Go.RowKit

set_option maxRecDepth 100000 in
set_option maxHeartbeats 2000000 in
theorem lawSpans (n : Int) (w : World) (ht : CalTab w) : Calls Tryd.prog 12 #[.int .i64 n] w fun e w' => e = .returned (.bool true) ∧ Below w.heap.size w w' := by
  have HT := Lib.hid ht
  clear ht
  by_cases h : 0 ≤ n ∧ n ≤ 17592186044416
  · obtain ⟨k, rfl⟩ : ∃ k : Nat, n = (k : Int) := ⟨n.toNat, by omega⟩
    have hk : k ≤ 17592186044416 := by omega
    have g1 : ¬ (k : Int) < 0 := by omega
    have g2 : ¬ (17592186044416 : Int) < (k : Int) := by omega
    clear h
    go_enter Tryd.func12, Tryd.ntmps12
    go_wp2_with fail
    refine (known_any _ HT.out).mono ?_
    rintro e w1 ⟨rfl, hb1⟩
    have HB1 := Lib.hid hb1
    have HT1 := Lib.hid (HT.out.below hb1)
    clear hb1
    go_wp2_with fail
    refine (SpanText_yes k hk _ HT1.out).mono ?_
    obtain ⟨s, HS⟩ : ∃ s : ByteArray, Hid (s = ⟨(spanL k).toArray⟩) := ⟨_, Lib.hid rfl⟩
    have HSD : Hid (s.data.toList = spanL k) := Lib.hid (by rw [HS.out])
    rw [← HS.out]
    rintro e w2 ⟨rfl, hb2⟩
    have HB2 := Lib.hid (below_trans HB1.out hb2)
    have HT2 := Lib.hid (HT1.out.below hb2)
    clear hb2
    have HP : Hid (calSp s.data.toList = ((k : Int), 0)) := Lib.hid (by rw [HSD.out]; exact calSp_span hk)
    go_wp2_with fail
    refine (ParseSpan_any s _ HT2.out).mono ?_
    rw [HP.out]
    rintro e w3 ⟨rfl, hb3⟩
    have HB3 := Lib.hid (below_trans HB2.out hb3)
    clear hb3
    go_wp2_with fail
    refine (rSpanText_any k hk _).mono ?_
    rw [← HS.out]
    rintro e w4 ⟨rfl, hb4⟩
    have HB4 := Lib.hid (below_trans HB3.out hb4)
    clear hb4
    go_wp2_with fail
    go_ret
    exact ⟨rfl, HB4.out⟩
  · have HN := Lib.hid h
    by_cases h1 : n < 0
    · clear h
      go_enter Tryd.func12, Tryd.ntmps12
      go_wp2_with fail
      refine (known_any _ HT.out).mono ?_
      rintro e w1 ⟨rfl, hb1⟩
      have HB1 := Lib.hid hb1
      clear hb1
      go_wp2_with fail
      refine (SpanText_no n HN.out _).mono ?_
      rintro e w' ⟨rfl, rfl⟩
      go_wp2_with fail
      go_ret
      exact ⟨rfl, HB1.out⟩
    · have h2 : 17592186044416 < n := by omega
      clear h
      go_enter Tryd.func12, Tryd.ntmps12
      go_wp2_with fail
      refine (known_any _ HT.out).mono ?_
      rintro e w1 ⟨rfl, hb1⟩
      have HB1 := Lib.hid hb1
      clear hb1
      go_wp2_with fail
      refine (SpanText_no n HN.out _).mono ?_
      rintro e w' ⟨rfl, rfl⟩
      go_wp2_with fail
      go_ret
      exact ⟨rfl, HB1.out⟩

set_option maxRecDepth 100000 in
set_option maxHeartbeats 2000000 in
theorem lawSpanParses (s : ByteArray) (w : World) (ht : CalTab w) : Calls Tryd.prog 13 #[.string s] w fun e w' => e = .returned (.bool true) ∧ Below w.heap.size w w' := by
  have HT := Lib.hid ht
  clear ht
  go_enter Tryd.func13, Tryd.ntmps13
  go_wp2_with fail
  generalize s.extract 0 (min (s.size : Int) 50).toNat = t
  obtain ⟨r, HR⟩ : ∃ r, Hid (calSp t.data.toList = r) := ⟨_, Lib.hid rfl⟩
  refine (ParseSpan_any t _ HT.out).mono ?_
  rintro e w1 ⟨rfl, hb1⟩
  have HB1 := Lib.hid hb1
  have HT1 := Lib.hid (HT.out.below hb1)
  rw [HR.out]
  clear hb1
  go_wp2_with fail
  refine (rParseSpan_any t _).mono ?_
  rintro e w2 ⟨rfl, hb2⟩
  have HB2 := Lib.hid (below_trans HB1.out hb2)
  have HT2 := Lib.hid (HT1.out.below hb2)
  rw [HR.out]
  clear hb2
  go_wp2_with fail
  refine (known_any _ HT2.out).mono ?_
  rintro e w3 ⟨rfl, hb3⟩
  have HB3 := Lib.hid (below_trans HB2.out hb3)
  clear hb3
  go_wp2_with fail
  go_ret
  exact ⟨rfl, HB3.out⟩

end Go.Proofs.YthkkjfofpoifiaaDoor
