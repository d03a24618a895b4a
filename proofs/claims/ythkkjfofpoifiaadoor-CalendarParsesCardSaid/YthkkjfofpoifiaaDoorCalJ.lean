/- Calendar: the law CalendarParses. -/
import Derived.Test.YthkkjfofpoifiaaDoorCalH
namespace Go.Proofs.YthkkjfofpoifiaaDoor
open Go.RowKit

theorem ext_size (s : ByteArray) : (s.extract 0 (min (s.size : Int) 40).toNat).size ≤ 9223372036854775807 := by
  rw [ByteArray.size_extract]; omega
set_option maxRecDepth 100000 in
set_option maxHeartbeats 2000000 in
theorem lawParses (s : ByteArray) (w : World) (ht : CalTab w) : Calls Tryd.prog 10 #[.string s] w fun e w' => e = .returned (.bool true) ∧ Below w.heap.size w w' := by
  have HT := Lib.hid ht
  have HZ := Lib.hid (ext_size s)
  clear ht
  go_enter Tryd.func10, Tryd.ntmps10
  go_wp2_with fail
  refine (known_any _ HT.out).mono ?_
  rintro e w1 ⟨rfl, hb1⟩
  have HB1 := Lib.hid hb1
  clear hb1
  go_wp2_with fail
  generalize s.extract 0 (min (s.size : Int) 40).toNat = t at HZ ⊢
  refine (Parse_any t HZ.out _).mono ?_
  rintro e w2 ⟨rfl, hb2⟩
  have HB2 := Lib.hid (below_trans HB1.out hb2)
  obtain ⟨r, HR⟩ : ∃ r, Hid (calP t.data.toList = r) := ⟨_, Lib.hid rfl⟩
  rw [HR.out]
  clear hb2
  go_wp2_with fail
  refine (rParse_any t _).mono ?_
  rintro e w3 ⟨rfl, hb3⟩
  have HB3 := Lib.hid (below_trans HB2.out hb3)
  rw [HR.out]
  clear hb3
  go_wp2_with fail
  refine (ParseTime_any t HZ.out _).mono ?_
  rintro e w4 ⟨rfl, hb4⟩
  have HB4 := Lib.hid (below_trans HB3.out hb4)
  obtain ⟨q, HQ⟩ : ∃ q, Hid (calT t.data.toList = q) := ⟨_, Lib.hid rfl⟩
  rw [HQ.out]
  clear hb4
  go_wp2_with fail
  refine (rParseTime_any t _).mono ?_
  rintro e w5 ⟨rfl, hb5⟩
  have HB5 := Lib.hid (below_trans HB4.out hb5)
  rw [HQ.out]
  clear hb5
  go_wp2_with fail
  go_ret
  exact ⟨rfl, HB5.out⟩

end Go.Proofs.YthkkjfofpoifiaaDoor
