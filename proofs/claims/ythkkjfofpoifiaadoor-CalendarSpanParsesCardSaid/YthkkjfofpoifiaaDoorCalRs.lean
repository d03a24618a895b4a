/- Calendar: the reference's SpanText. -/
import Derived.Test.YthkkjfofpoifiaaDoorCalRd
import Derived.Test.YthkkjfofpoifiaaDoorCalTr
import Derived.Deep.Cut
import Derived.Deep.CutRange
import Derived.Deep.DeepCutAuto
namespace Go.Proofs.YthkkjfofpoifiaaDoor
open Go.RowKit
attribute [local go_sem ↓] Go.wp_at_zero Go.wp_at_succ

def szV : Array Value := #[.int .i64 86400000, .int .i64 3600000, .int .i64 60000, .int .i64 1000, .int .i64 1]
def nmV : Array Value := #[.string ⟨#[100]⟩, .string ⟨#[104]⟩, .string ⟨#[109]⟩, .string ⟨#[115]⟩, .string ⟨#[109, 115]⟩]
theorem runit_at (k : Nat) (hk : k < 5) : ∃ (nm : ByteArray) (sz : Nat), szV[k]? = some (.int .i64 (sz : Int)) ∧ nmV[k]? = some (.string nm) ∧ unitsL.drop k = (nm.data.toList, sz) :: unitsL.drop (k + 1) ∧ nm.size ≤ 2 ∧ 0 < sz ∧ sz ≤ 86400000 ∧ (k = 0 → sz = 86400000) := by
  have hk5 : k = 0 ∨ k = 1 ∨ k = 2 ∨ k = 3 ∨ k = 4 := by omega
  rcases hk5 with rfl | rfl | rfl | rfl | rfl
  · exact ⟨⟨#[100]⟩, 86400000, rfl, rfl, rfl, by decide, by decide, by decide, fun _ => rfl⟩
  · exact ⟨⟨#[104]⟩, 3600000, rfl, rfl, rfl, by decide, by decide, by decide, fun h => by cases h⟩
  · exact ⟨⟨#[109]⟩, 60000, rfl, rfl, rfl, by decide, by decide, by decide, fun h => by cases h⟩
  · exact ⟨⟨#[115]⟩, 1000, rfl, rfl, rfl, by decide, by decide, by decide, fun h => by cases h⟩
  · exact ⟨⟨#[109, 115]⟩, 1, rfl, rfl, rfl, by decide, by decide, by decide, fun h => by cases h⟩

set_option maxRecDepth 100000 in
set_option maxHeartbeats 4000000 in
theorem rSpanText_any (n : Nat) (hn : n ≤ 17592186044416) (w : World) : Calls Tryd.prog 42 #[.int .i64 (n : Int)] w fun e w' => e = .returned (.string ⟨(spanL n).toArray⟩) ∧ Below w.heap.size w w' := by
  have HS : Hid (Blk ((w.alloc (.cells szV 3)).alloc (.cells nmV 9)) w.heap.size 3 szV) := Lib.hid ((Blk.new w _ _).alloc _)
  have HN : Hid (Blk ((w.alloc (.cells szV 3)).alloc (.cells nmV 9)) (w.heap.size + 1) 9 nmV) := Lib.hid (by
    have := Blk.new (w.alloc (.cells szV 3)) 9 nmV
    simpa using this)
  have HB0 : Hid (Below w.heap.size w ((w.alloc (.cells szV 3)).alloc (.cells nmV 9))) := Lib.hid (((Below.refl _ _).alloc (Nat.le_refl _) _).alloc (by simp) _)
  go_enter Tryd.func42, Tryd.ntmps42
  go_wp2_with fail
  go_loopw [0, 5, 6] (fun t s i wx => ∃ (k m : Nat) (sb : ByteArray), i = .int .i64 (k : Int) ∧ k ≤ 5 ∧ t = .int .i64 (m : Int) ∧ m ≤ 17592186044416 ∧ s = .string sb ∧ sb.size ≤ 30 * k ∧ Hid (k = 0 ∨ m < 86400000) ∧ Hid (sb.data.toList ++ spanGo (unitsL.drop k) m = spanGo unitsL n) ∧ Hid (Only Nobody ((w.alloc (.cells szV 3)).alloc (.cells nmV 9)) wx)) (fun _ _ i _ => 5 - (intOf i).toNat)
  case atStart => exact ⟨0, n, ⟨#[]⟩, rfl, by omega, rfl, hn, rfl, Nat.le_refl _, Lib.hid (.inl rfl), Lib.hid rfl, Lib.hid (Only.refl _ _)⟩
  case round =>
    obtain ⟨k, m, sb, rfl, hk, rfl, hm, rfl, hsb, HK, HR, HO⟩ := hrel
    by_cases hk5 : k < 5
    · obtain ⟨nm, sz, h1, h2, h3, h4, h5, h6, h7⟩ := runit_at k hk5
      have HC : Hid (∀ w', Only Nobody ((w.alloc (.cells szV 3)).alloc (.cells nmV 9)) w' → w'.cell? ⟨w.heap.size, k, none⟩ = some (.int .i64 (sz : Int)) ∧ w'.cell? ⟨w.heap.size + 1, k, none⟩ = some (.string nm)) := Lib.hid fun w' ho =>
        ⟨((ho.blk HS.out (fun x => x)).cell k).trans h1, ((ho.blk HN.out (fun x => x)).cell k).trans h2⟩
      obtain ⟨c1, c2⟩ := HC.out _ HO.out
      have HD := Lib.hid h3
      have hkI : (k : Int) < 5 := by omega
      have hk0 : (0 : Int) ≤ (k : Int) := by omega
      have hm0 : (0 : Int) ≤ (m : Int) := by omega
      have hs0 : (0 : Int) < (sz : Int) := by omega
      obtain ⟨q, HQ⟩ : ∃ q : Nat, Hid (m / sz = q) := ⟨_, Lib.hid rfl⟩
      obtain ⟨r, HRM⟩ : ∃ r : Nat, Hid (m % sz = r) := ⟨_, Lib.hid rfl⟩
      have hdv : (m : Int) / (sz : Int) = (q : Int) := by rw [← HQ.out]; exact (Int.natCast_ediv m sz).symm
      have hmv : (m : Int) % (sz : Int) = (r : Int) := by rw [← HRM.out]; exact (Int.natCast_emod m sz).symm
      have hmI : (m : Int) ≤ 17592186044416 := by omega
      have hq1 : q ≤ 1000000000 := by
        rw [← HQ.out]
        rcases HK.out with h | h
        · rw [h7 h]; omega
        · have := Nat.div_le_self m sz; omega
      have hqI : (q : Int) ≤ 1000000000 := by omega
      have hq0 : (0 : Int) ≤ (q : Int) := by omega
      have hr : r < sz := by rw [← HRM.out]; exact Nat.mod_lt _ h5
      have HST : Hid (spanGo (unitsL.drop k) m = if q = 0 then spanGo (unitsL.drop (k + 1)) m else Lib.decDigits q ++ nm.data.toList ++ spanGo (unitsL.drop (k + 1)) r) := Lib.hid (by rw [HD.out, spanGo, HQ.out, HRM.out])
      clear h1 h2 h3 h7
      by_cases hqz : q = 0
      · have HRMM : Hid (r = m) := Lib.hid (by
          have h8 := Nat.div_add_mod m sz
          rw [HQ.out, HRM.out, hqz] at h8
          omega)
        have hqn : ¬ (0 : Int) < (q : Int) := by omega
        have HQZ := Lib.hid hqz
        clear hqz
        go_wp2_with fail
        go_roundw
        case rel => exact ⟨k + 1, r, sb, by go_num, by omega, by rw [hmv], by have := HRMM.out; omega, rfl, by omega, Lib.hid (.inr (by omega)), Lib.hid (by rw [← HR.out, HST.out, if_pos HQZ.out, HRMM.out]), HO⟩
        case measure => simp [intOf]; omega
      · have hqp : (0 : Int) < (q : Int) := by omega
        have HQZ := Lib.hid hqz
        obtain ⟨p, HP⟩ : ∃ p : ByteArray, Hid (p = ⟨(Lib.decDigits q).toArray⟩) := ⟨_, Lib.hid rfl⟩
        have hpz : p.size ≤ 25 := by
          rw [HP.out, ← size_len]
          have := dec_len' 9 q (by omega)
          show (Lib.decDigits q).length ≤ 25
          omega
        have HDC : Hid (∀ w : World, Calls Tryd.prog 58 #[.int .i64 (q : Int)] w fun e w' => e = .returned (.string p) ∧ Below w.heap.size w w') := Lib.hid (fun w => by
          have := rDec_any q hq1 w
          rw [HP.out]
          exact this)
        have z1 : ¬ 9223372036854775807 < sb.size + p.size := by omega
        have z2 : ¬ 9223372036854775807 < sb.size + p.size + nm.size := by omega
        have z3 : ¬ 9223372036854775807 < p.size + nm.size := by omega
        have z4 : ¬ 9223372036854775807 < sb.size + (p.size + nm.size) := by omega
        have HOW : Hid (Only Nobody ((w.alloc (.cells szV 3)).alloc (.cells nmV 9)) wr.drew) := Lib.hid HO.out.drew
        clear hqz
        go_upto_region 9 with fail
        go_cut [5] (fun s wx => s = .string (sb ++ p ++ nm) ∧ Only Nobody ((w.alloc (.cells szV 3)).alloc (.cells nmV 9)) wx)
        case first =>
          go_region_held3 (fun w' => w'.cell? ⟨w.heap.size + 1, k, none⟩ = some (.string nm)) (first | exact c2 | exact hcc.2) (first
            | (go_at_call 58; refine (HDC.out _).mono ?_; rintro e w' ⟨rfl, hb'⟩; have HOW := Lib.hid (HOW.out.trans (Only.of_below hb' Nobody)); have hcc := HC.out _ HOW.out; clear hb'))
          all_goals
            go_wp2_with fail
            go_meet
            exact ⟨rfl, HOW.out⟩
        case rest =>
          obtain ⟨rfl, hox⟩ := hcut
          have HOX := Lib.hid hox
          obtain ⟨c3, c4⟩ := HC.out _ hox
          clear hox c1 c2
          go_wp2_with fail
          go_roundw
          case rel => exact ⟨k + 1, r, sb ++ p ++ nm, by go_num, by omega, by rw [hmv], by omega, rfl, by rw [ByteArray.size_append, ByteArray.size_append]; omega, Lib.hid (.inr (by omega)), Lib.hid (by rw [← HR.out, HST.out, if_neg HQZ.out, HP.out]; simp), HOX⟩
          case measure => simp [intOf]; omega
    · obtain rfl : k = 5 := by omega
      have HE : Hid (sb.data.toList = spanGo unitsL n) := Lib.hid (by rw [← HR.out]; show _ = _ ++ []; simp)
      by_cases hn0 : n = 0
      · have hsb0 : sb.data.toList = [] := by rw [HE.out, hn0]; decide +kernel
        obtain ⟨r1, r2⟩ : sb.toList.isEmpty = true ∧ sb.toList = [] := by rw [toList_data, hsb0]; exact ⟨rfl, rfl⟩
        have r3 : (sb.toList == []) = true := by rw [r2]; rfl
        have HF : Hid ((⟨#[48, 115]⟩ : ByteArray) = ⟨(spanL n).toArray⟩) := Lib.hid (by rw [hn0]; rfl)
        clear hsb0 hn0
        go_wp2_with fail
        go_ret
        exact ⟨ret_str HF.out, HB0.out.trans (HO.out.below HB0.out.size (fun _ x => x.elim))⟩
      · have HF : Hid (sb = ⟨(spanL n).toArray⟩) := Lib.hid (str_ext (by rw [HE.out]; unfold spanL; rw [if_neg hn0]))
        have hsb0 : ¬ sb.data.toList = [] := by
          rw [HE.out]
          intro h
          have := loop_spanL n hn
          unfold spanL at this
          rw [if_neg hn0, h] at this
          have h2 : loopI unitsL 0 [] = some (0, []) := by decide +kernel
          rw [h2] at this
          simp at this
          omega
        obtain ⟨r1, r2⟩ : sb.toList.isEmpty = false ∧ ¬ sb.toList = [] := by
          rw [toList_data]
          exact ⟨by cases e : sb.data.toList with
            | nil => exact absurd e hsb0
            | cons a l => rfl, hsb0⟩
        have r3 : (sb.toList == []) = false := by simpa using r2
        clear hsb0 hn0
        go_wp2_with fail
        go_ret
        exact ⟨ret_str HF.out, HB0.out.trans (HO.out.below HB0.out.size (fun _ x => x.elim))⟩

end Go.Proofs.YthkkjfofpoifiaaDoor
