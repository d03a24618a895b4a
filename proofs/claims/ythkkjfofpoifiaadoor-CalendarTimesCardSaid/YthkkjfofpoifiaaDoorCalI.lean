/- Calendar: the contract of ParseTime. -/
import Derived.Test.YthkkjfofpoifiaaDoorCalX
import Derived.Test.YthkkjfofpoifiaaDoorCalY
namespace Go.Proofs.YthkkjfofpoifiaaDoor
open Go.RowKit
attribute [local go_sem ↓] Go.wp_at_zero Go.wp_at_succ

def ms6 : List (ByteArray × Nat) := [(⟨#[]⟩, 4), (⟨#[45]⟩, 2), (⟨#[45]⟩, 2), (⟨#[84]⟩, 2), (⟨#[58]⟩, 2), (⟨#[58]⟩, 2)]
theorem marks_ms6 : marksL ms6 = marks6 := rfl
theorem ms6_cells (W : World) (gm gd : Nat) (hm : Blk W gm 9 #[.string ⟨#[]⟩, .string ⟨#[45]⟩, .string ⟨#[45]⟩, .string ⟨#[84]⟩, .string ⟨#[58]⟩, .string ⟨#[58]⟩]) (hd : Blk W gd 3 #[.int .i64 4, .int .i64 2, .int .i64 2, .int .i64 2, .int .i64 2, .int .i64 2]) :
    ∀ i x, ms6[i]? = some x → W.cell? ⟨gm, i, none⟩ = some (.string x.1) ∧ W.cell? ⟨gd, i, none⟩ = some (.int .i64 (x.2 : Int)) := by
  intro i x hx
  rw [hm.cell, hd.cell]
  rcases i with _ | _ | _ | _ | _ | _ | i
  · simp [ms6] at hx; subst hx; exact ⟨rfl, rfl⟩
  · simp [ms6] at hx; subst hx; exact ⟨rfl, rfl⟩
  · simp [ms6] at hx; subst hx; exact ⟨rfl, rfl⟩
  · simp [ms6] at hx; subst hx; exact ⟨rfl, rfl⟩
  · simp [ms6] at hx; subst hx; exact ⟨rfl, rfl⟩
  · simp [ms6] at hx; subst hx; exact ⟨rfl, rfl⟩
  · simp [ms6] at hx
theorem number3 (s : ByteArray) (hs : s.size ≤ 9223372036854775807) (w : World) : Calls Tryd.prog 53 #[.string s, .int .i64 3] w (NumPost s 3 w) := number_any s 3 (by omega) hs w
theorem w64 {n : Int} (h0 : -9223372036854775808 ≤ n) (h1 : n < 9223372036854775808) : IntKind.i64.wrap n = n := by rw [IntKind.wrap_i64]; omega
theorem tw_eq {hh mi sc : Nat} (h1 : hh ≤ 23) (h2 : mi ≤ 59) (h3 : sc ≤ 59) : IntKind.i64.wrap (IntKind.i64.wrap (IntKind.i64.wrap (IntKind.i64.wrap (IntKind.i64.wrap (60 * (hh : Int)) + mi) * 60) + sc) * 1000) = ((60 * (hh : Int) + mi) * 60 + sc) * 1000 := by
  rw [w64 (n := 60 * (hh : Int)) (by omega) (by omega), w64 (n := 60 * (hh : Int) + mi) (by omega) (by omega), w64 (n := (60 * (hh : Int) + mi) * 60) (by omega) (by omega), w64 (n := (60 * (hh : Int) + mi) * 60 + sc) (by omega) (by omega), w64 (by omega) (by omega)]
theorem Join_time {y m d : Int} {hh mi sc ms : Nat} (h : Date y m d) (h1 : hh ≤ 23) (h2 : mi ≤ 59) (h3 : sc ≤ 59) (h4 : ms ≤ 999) (w : World) : Calls Tryd.prog 22 #[.int .i64 (dnum y m d), .int .i64 (IntKind.i64.wrap (IntKind.i64.wrap (IntKind.i64.wrap (IntKind.i64.wrap (IntKind.i64.wrap (IntKind.i64.wrap (60 * (hh : Int)) + mi) * 60) + sc) * 1000) + ms))] w fun e w' => e = .returned (.tuple #[.int .i64 (dnum y m d * 86400000 + (((60 * (hh : Int) + mi) * 60 + sc) * 1000 + ms)), .int .i64 0]) ∧ w = w' := by
  rw [tw_eq h1 h2 h3, w64 (by omega) (by omega)]
  exact Join_yes _ _ (h.range).1 (h.range).2 (by omega) (by omega) w
theorem Join_time0 {y m d : Int} {hh mi sc : Nat} (h : Date y m d) (h1 : hh ≤ 23) (h2 : mi ≤ 59) (h3 : sc ≤ 59) (w : World) : Calls Tryd.prog 22 #[.int .i64 (dnum y m d), .int .i64 (IntKind.i64.wrap (IntKind.i64.wrap (IntKind.i64.wrap (IntKind.i64.wrap (IntKind.i64.wrap (IntKind.i64.wrap (60 * (hh : Int)) + mi) * 60) + sc) * 1000)))] w fun e w' => e = .returned (.tuple #[.int .i64 (dnum y m d * 86400000 + (((60 * (hh : Int) + mi) * 60 + sc) * 1000)), .int .i64 0]) ∧ w = w' := by
  rw [tw_eq h1 h2 h3, w64 (by omega) (by omega)]
  exact Join_yes _ _ (h.range).1 (h.range).2 (by omega) (by omega) w
/-- The times of a text, for a walk. -/
theorem fin_facts (l : List UInt8) (ms : Nat) (hc : calT l = finT l ms) : ∃ y m d hh mi sc : Nat, nums6 l = [y, m, d, hh, mi, sc] ∧
    (Date y m d → hh ≤ 23 → mi ≤ 59 → sc ≤ 59 → calT l = (dnum y m d * 86400000 + (((60 * (hh : Int) + mi) * 60 + sc) * 1000 + ms), 0)) ∧
    (¬ (Date y m d ∧ hh ≤ 23 ∧ mi ≤ 59 ∧ sc ≤ 59) → calT l = (0, 17)) :=
  ⟨_, _, _, _, _, _, rfl, fun a b c d => hc.trans (finT_yes a b c d), fun a => hc.trans (finT_no a)⟩
theorem ms_bd {l : List UInt8} (h : numOK (l.drop 20) 3 = true) : numL ((l.drop 20).take 3) ≤ 999 := by
  obtain ⟨h1, h2⟩ := numOK_iff.1 h
  have := numL_lt 3 ((l.drop 20).take 3) (by rw [List.length_take]; omega) h2
  omega
theorem list_90 {s : ByteArray} (h : s.data.toList = [90]) : (s.toList == [90]) = true ∧ s.toList = [90] := by
  rw [toList_data, h]; exact ⟨rfl, rfl⟩
theorem list_no90 {s : ByteArray} (h : ¬ s.data.toList = [90]) : (s.toList == [90]) = false ∧ ¬ s.toList = [90] := by
  rw [toList_data]; exact ⟨by simpa using h, h⟩
/-- The cells of the six numbers. -/
theorem cells6 {w : World} {base g cap : Nat} {l : List UInt8} {y m d hh mi sc : Nat} (hv : w.ownsRow base 3 1 (.slice (some ⟨g, 0, none⟩) 6 cap) 6 (intVals (nums6 l))) (e : nums6 l = [y, m, d, hh, mi, sc]) :
    w.cell? ⟨g, 0, none⟩ = some (.int .i64 (y : Int)) ∧ w.cell? ⟨g, 1, none⟩ = some (.int .i64 (m : Int)) ∧ w.cell? ⟨g, 2, none⟩ = some (.int .i64 (d : Int)) ∧ w.cell? ⟨g, 3, none⟩ = some (.int .i64 (hh : Int)) ∧ w.cell? ⟨g, 4, none⟩ = some (.int .i64 (mi : Int)) ∧ w.cell? ⟨g, 5, none⟩ = some (.int .i64 (sc : Int)) ∧ 6 ≤ cap := by
  rw [e] at hv
  have hcells := hv.cells (g := g) rfl
  have q0 := hcells 0 _ rfl
  have q1 := hcells 1 _ rfl
  have q2 := hcells 2 _ rfl
  have q3 := hcells 3 _ rfl
  have q4 := hcells 4 _ rfl
  have q5 := hcells 5 _ rfl
  rw [addr0] at q0 q1 q2 q3 q4 q5
  refine ⟨q0, q1, q2, q3, q4, q5, ?_⟩
  rcases hv.2 with ⟨h1, _⟩ | ⟨g', cap', cur, h1, _, _, hnc, _⟩
  · cases h1
  · injection h1 with _ _ h5
    omega

set_option maxRecDepth 100000 in
set_option maxHeartbeats 4000000 in
theorem ParseTime_any (s : ByteArray) (hs : s.size ≤ 9223372036854775807) (w : World) : Calls Tryd.prog 34 #[.string s] w fun e w' => e = .returned (.tuple #[.int .i64 (calT s.data.toList).1, .int .i64 (calT s.data.toList).2]) ∧ Below w.heap.size w w' := by
  have HM : Hid (Blk ((w.alloc (.cells #[.string ⟨#[]⟩, .string ⟨#[45]⟩, .string ⟨#[45]⟩, .string ⟨#[84]⟩, .string ⟨#[58]⟩, .string ⟨#[58]⟩] 9)).alloc (.cells #[.int .i64 4, .int .i64 2, .int .i64 2, .int .i64 2, .int .i64 2, .int .i64 2] 3)) w.heap.size 9 #[.string ⟨#[]⟩, .string ⟨#[45]⟩, .string ⟨#[45]⟩, .string ⟨#[84]⟩, .string ⟨#[58]⟩, .string ⟨#[58]⟩]) := Lib.hid ((Blk.new w _ _).alloc _)
  have HD : Hid (Blk ((w.alloc (.cells #[.string ⟨#[]⟩, .string ⟨#[45]⟩, .string ⟨#[45]⟩, .string ⟨#[84]⟩, .string ⟨#[58]⟩, .string ⟨#[58]⟩] 9)).alloc (.cells #[.int .i64 4, .int .i64 2, .int .i64 2, .int .i64 2, .int .i64 2, .int .i64 2] 3)) (w.heap.size + 1) 3 #[.int .i64 4, .int .i64 2, .int .i64 2, .int .i64 2, .int .i64 2, .int .i64 2]) := Lib.hid (by
    have := Blk.new (w.alloc (.cells #[.string ⟨#[]⟩, .string ⟨#[45]⟩, .string ⟨#[45]⟩, .string ⟨#[84]⟩, .string ⟨#[58]⟩, .string ⟨#[58]⟩] 9)) 3 #[.int .i64 4, .int .i64 2, .int .i64 2, .int .i64 2, .int .i64 2, .int .i64 2]
    simpa using this)
  have HB0 : Hid (Below w.heap.size w ((w.alloc (.cells #[.string ⟨#[]⟩, .string ⟨#[45]⟩, .string ⟨#[45]⟩, .string ⟨#[84]⟩, .string ⟨#[58]⟩, .string ⟨#[58]⟩] 9)).alloc (.cells #[.int .i64 4, .int .i64 2, .int .i64 2, .int .i64 2, .int .i64 2, .int .i64 2] 3))) := Lib.hid (((Below.refl _ _).alloc (Nat.le_refl _) _).alloc (by simp) _)
  go_enter Tryd.func34, Tryd.ntmps34
  go_wp2_with fail
  refine (numbers_any s ms6 6 w.heap.size (w.heap.size + 1) _ hs rfl (by omega) (by intro x hx; simp [ms6] at hx; rcases hx with rfl | rfl | rfl | rfl <;> simp) (by simp; omega) (by simp) (ms6_cells _ _ _ HM.out HD.out)).mono ?_
  rw [marks_ms6]
  rintro e w1 ⟨(⟨hn, rfl⟩ | ⟨ns, rest, v, s', hn, rfl, hr, hv⟩), hb1⟩
  · have HB1 := Lib.hid (below_trans HB0.out hb1)
    have HF := Lib.hid (calT_bad hn)
    clear hb1 hn HM HD
    go_wp2_with fail
    go_ret2
    exact ⟨ret2_ints HF.out, HB1.out⟩
  · have HB1 := Lib.hid (below_trans HB0.out hb1)
    obtain ⟨hok, rfl, hrest⟩ := calT_ok hn
    rw [hrest] at hr
    have HOK := Lib.hid hok
    have HR := Lib.hid hr
    obtain ⟨g, cap, rfl, _, hgl⟩ := hv.form (Nat.zero_lt_succ _)
    have HV := Lib.hid hv
    rw [show (nums6 s.data.toList).length = 6 from rfl] at HV
    have hsz : s'.size ≤ 9223372036854775807 := by rw [← size_len, hr, List.length_drop, size_len]; omega
    rw [show (nums6 s.data.toList).length = 6 from rfl]
    clear hv hn hok hr hrest hb1 HM HD
    by_cases hp : ([46] : List UInt8).isPrefixOf s'.data.toList = true
    · have HP := Lib.hid hp
      clear hp
      go_wp2_with fail
      refine (cut_yes s' ⟨#[46]⟩ HP.out _).mono ?_
      rintro e w' ⟨⟨t, rfl, ht⟩, rfl⟩
      have HT : Hid (t.data.toList = s.data.toList.drop 20) := Lib.hid (by rw [ht, HR.out, List.drop_drop]; rfl)
      have htz : t.size ≤ 9223372036854775807 := by rw [← size_len, ht, List.length_drop, size_len]; omega
      have HPL : Hid (([46] : List UInt8).isPrefixOf (s.data.toList.drop 19) = true) := Lib.hid (by rw [← HR.out]; exact HP.out)
      clear ht
      go_wp2_with fail
      refine (number3 t htz _).mono ?_
      rintro e w2 ⟨(⟨hok, s2, rfl, hs2⟩ | ⟨hok, rfl⟩), hb2⟩
      · have HB2 := Lib.hid (below_trans HB1.out hb2)
        have HB12 := Lib.hid hb2
        have HNO : Hid (numOK (s.data.toList.drop 20) 3 = true) := Lib.hid (by rw [← HT.out]; exact hok)
        have HS2 : Hid (s2.data.toList = s.data.toList.drop 23) := Lib.hid (by rw [hs2, HT.out, List.drop_drop])
        have HMS : Hid (numL (t.data.toList.take 3) = numL ((s.data.toList.drop 20).take 3)) := Lib.hid (by rw [HT.out])
        rw [HMS.out]
        clear hok hs2 hb2
        by_cases hms : numL ((s.data.toList.drop 20).take 3) = 0
        · have HF : Hid (calT s.data.toList = (0, 13)) := Lib.hid (calT_frac_no HOK.out HPL.out (fun x => x.2.1 hms))
          rw [hms]
          clear hms
          go_wp2_with fail
          go_ret2
          exact ⟨ret2_ints HF.out, HB2.out⟩
        · by_cases hz : s2.data.toList = [90]
          · obtain ⟨y, m, d, hh, mi, sc, hE, hY, hN⟩ := fin_facts _ _ (calT_frac HOK.out HPL.out HNO.out hms (HS2.out.symm.trans hz))
            have HMB := Lib.hid (ms_bd HNO.out)
            obtain ⟨q0, q1, q2, q3, q4, q5, hcap⟩ := cells6 HV.out hE
            have q0 := (HB12.out.cell (p := ⟨g, 0, none⟩) (World.block_lt_of_cell? _ _ q0)).trans q0
            have q1 := (HB12.out.cell (p := ⟨g, 1, none⟩) (World.block_lt_of_cell? _ _ q1)).trans q1
            have q2 := (HB12.out.cell (p := ⟨g, 2, none⟩) (World.block_lt_of_cell? _ _ q2)).trans q2
            have q3 := (HB12.out.cell (p := ⟨g, 3, none⟩) (World.block_lt_of_cell? _ _ q3)).trans q3
            have q4 := (HB12.out.cell (p := ⟨g, 4, none⟩) (World.block_lt_of_cell? _ _ q4)).trans q4
            have q5 := (HB12.out.cell (p := ⟨g, 5, none⟩) (World.block_lt_of_cell? _ _ q5)).trans q5
            have HY := Lib.hid hY
            have HN := Lib.hid hN
            obtain ⟨z1, z2⟩ := list_90 hz
            have hms0 : ((numL ((s.data.toList.drop 20).take 3) : Int) == 0) = false := by simpa using hms
            have hcI : (6 : Int) ≤ (cap : Int) := by omega
            generalize numL ((s.data.toList.drop 20).take 3) = ms at HY HMB HMS hms0
            clear hY hN hz hE HMS HV HS2 HT HPL HP HR HNO hms hsz htz
            by_cases hD : Date y m d
            · have HDD := Lib.hid hD
              by_cases h1 : hh ≤ 23
              · by_cases h2 : mi ≤ 59
                · by_cases h3 : sc ≤ 59
                  · have HA := Lib.hid (HY.out hD h1 h2 h3)
                    have b1 : ¬ (23 : Int) < (hh : Int) := by omega
                    have b2 : ¬ (59 : Int) < (mi : Int) := by omega
                    have b3 : ¬ (59 : Int) < (sc : Int) := by omega
                    have HJ := fun w => Lib.hid (Join_time (ms := ms) hD h1 h2 h3 HMB.out w)
                    have n1 : (hh : Int) ≤ 23 := by omega
                    have n2 : (mi : Int) ≤ 59 := by omega
                    have n3 : (sc : Int) ≤ 59 := by omega
                    have n4 : (ms : Int) ≤ 999 := by have := HMB.out; omega
                    have HDR := Lib.hid hD.range
                    clear hD HY HN
                    go_wp2_with fail
                    go_region_held3 (fun w' => w'.cell? ⟨g, 0, none⟩ = some (.int .i64 (y : Int)) ∧ w'.cell? ⟨g, 1, none⟩ = some (.int .i64 (m : Int)) ∧ w'.cell? ⟨g, 2, none⟩ = some (.int .i64 (d : Int)) ∧ w'.cell? ⟨g, 3, none⟩ = some (.int .i64 (hh : Int)) ∧ w'.cell? ⟨g, 4, none⟩ = some (.int .i64 (mi : Int)) ∧ w'.cell? ⟨g, 5, none⟩ = some (.int .i64 (sc : Int))) (exact ⟨q0, q1, q2, q3, q4, q5⟩) (first | (go_at_call 19; refine (Days_yes _ _ _ HDD.out _).mono ?_; rintro e w' ⟨rfl, rfl⟩))
                    go_wp2_with fail
                    go_region_held3 (fun w' => w'.cell? ⟨g, 0, none⟩ = some (.int .i64 (y : Int)) ∧ w'.cell? ⟨g, 1, none⟩ = some (.int .i64 (m : Int)) ∧ w'.cell? ⟨g, 2, none⟩ = some (.int .i64 (d : Int)) ∧ w'.cell? ⟨g, 3, none⟩ = some (.int .i64 (hh : Int)) ∧ w'.cell? ⟨g, 4, none⟩ = some (.int .i64 (mi : Int)) ∧ w'.cell? ⟨g, 5, none⟩ = some (.int .i64 (sc : Int))) (exact ⟨q0, q1, q2, q3, q4, q5⟩) (first | (go_at_call 22; refine ((HJ _).out).mono ?_; rintro e w' ⟨rfl, rfl⟩))
                    go_wp2_with fail
                    go_ret2
                    exact ⟨ret2_ints HA.out, HB2.out.drew.drew⟩
                  · have HA := Lib.hid (HN.out (fun x => h3 x.2.2.2))
                    have b1 : ¬ (23 : Int) < (hh : Int) := by omega
                    have b2 : ¬ (59 : Int) < (mi : Int) := by omega
                    have b3 : (59 : Int) < (sc : Int) := by omega
                    clear hD HY HN
                    go_wp2_with fail
                    go_region_held3 (fun w' => w'.cell? ⟨g, 0, none⟩ = some (.int .i64 (y : Int)) ∧ w'.cell? ⟨g, 1, none⟩ = some (.int .i64 (m : Int)) ∧ w'.cell? ⟨g, 2, none⟩ = some (.int .i64 (d : Int)) ∧ w'.cell? ⟨g, 3, none⟩ = some (.int .i64 (hh : Int)) ∧ w'.cell? ⟨g, 4, none⟩ = some (.int .i64 (mi : Int)) ∧ w'.cell? ⟨g, 5, none⟩ = some (.int .i64 (sc : Int))) (exact ⟨q0, q1, q2, q3, q4, q5⟩) (first | (go_at_call 19; refine (Days_yes _ _ _ HDD.out _).mono ?_; rintro e w' ⟨rfl, rfl⟩))
                    go_wp2_with fail
                    go_ret2
                    exact ⟨ret2_ints HA.out, HB2.out.drew⟩
                · have HA := Lib.hid (HN.out (fun x => h2 x.2.2.1))
                  have b1 : ¬ (23 : Int) < (hh : Int) := by omega
                  have b2 : (59 : Int) < (mi : Int) := by omega
                  clear hD HY HN
                  go_wp2_with fail
                  go_region_held3 (fun w' => w'.cell? ⟨g, 0, none⟩ = some (.int .i64 (y : Int)) ∧ w'.cell? ⟨g, 1, none⟩ = some (.int .i64 (m : Int)) ∧ w'.cell? ⟨g, 2, none⟩ = some (.int .i64 (d : Int)) ∧ w'.cell? ⟨g, 3, none⟩ = some (.int .i64 (hh : Int)) ∧ w'.cell? ⟨g, 4, none⟩ = some (.int .i64 (mi : Int)) ∧ w'.cell? ⟨g, 5, none⟩ = some (.int .i64 (sc : Int))) (exact ⟨q0, q1, q2, q3, q4, q5⟩) (first | (go_at_call 19; refine (Days_yes _ _ _ HDD.out _).mono ?_; rintro e w' ⟨rfl, rfl⟩))
                  go_wp2_with fail
                  go_ret2
                  exact ⟨ret2_ints HA.out, HB2.out.drew⟩
              · have HA := Lib.hid (HN.out (fun x => h1 x.2.1))
                have b1 : (23 : Int) < (hh : Int) := by omega
                clear hD HY HN
                go_wp2_with fail
                go_region_held3 (fun w' => w'.cell? ⟨g, 0, none⟩ = some (.int .i64 (y : Int)) ∧ w'.cell? ⟨g, 1, none⟩ = some (.int .i64 (m : Int)) ∧ w'.cell? ⟨g, 2, none⟩ = some (.int .i64 (d : Int)) ∧ w'.cell? ⟨g, 3, none⟩ = some (.int .i64 (hh : Int)) ∧ w'.cell? ⟨g, 4, none⟩ = some (.int .i64 (mi : Int)) ∧ w'.cell? ⟨g, 5, none⟩ = some (.int .i64 (sc : Int))) (exact ⟨q0, q1, q2, q3, q4, q5⟩) (first | (go_at_call 19; refine (Days_yes _ _ _ HDD.out _).mono ?_; rintro e w' ⟨rfl, rfl⟩))
                go_wp2_with fail
                go_ret2
                exact ⟨ret2_ints HA.out, HB2.out.drew⟩
            · have HDD := Lib.hid hD
              have HA := Lib.hid (HN.out (fun x => hD x.1))
              clear hD HY HN
              go_wp2_with fail
              go_region_held3 (fun w' => w'.cell? ⟨g, 0, none⟩ = some (.int .i64 (y : Int)) ∧ w'.cell? ⟨g, 1, none⟩ = some (.int .i64 (m : Int)) ∧ w'.cell? ⟨g, 2, none⟩ = some (.int .i64 (d : Int)) ∧ w'.cell? ⟨g, 3, none⟩ = some (.int .i64 (hh : Int)) ∧ w'.cell? ⟨g, 4, none⟩ = some (.int .i64 (mi : Int)) ∧ w'.cell? ⟨g, 5, none⟩ = some (.int .i64 (sc : Int))) (exact ⟨q0, q1, q2, q3, q4, q5⟩) (first | (go_at_call 19; refine (Days_no _ _ _ HDD.out _).mono ?_; rintro e w' ⟨rfl, rfl⟩))
              go_wp2_with fail
              go_ret2
              exact ⟨ret2_ints HA.out, HB2.out.drew⟩
          · have HF : Hid (calT s.data.toList = (0, 13)) := Lib.hid (calT_frac_no HOK.out HPL.out (fun x => hz (HS2.out.trans x.2.2)))
            obtain ⟨z1, z2⟩ := list_no90 hz
            have hms0 : ((numL ((s.data.toList.drop 20).take 3) : Int) == 0) = false := by simpa using hms
            generalize numL ((s.data.toList.drop 20).take 3) = ms at hms0 HMS
            clear hz hms
            go_wp2_with fail
            go_ret2
            exact ⟨ret2_ints HF.out, HB2.out⟩
      · have HB2 := Lib.hid (below_trans HB1.out hb2)
        have HF : Hid (calT s.data.toList = (0, 13)) := Lib.hid (calT_frac_no HOK.out HPL.out (fun x => by rw [HT.out, x.1] at hok; cases hok))
        clear hok hb2
        go_wp2_with fail
        go_ret2
        exact ⟨ret2_ints HF.out, HB2.out⟩
    · have HP : Hid (([46] : List UInt8).isPrefixOf s'.data.toList = false) := Lib.hid ((Bool.not_eq_true _).mp hp)
      by_cases hz : s'.data.toList = [90]
      · obtain ⟨y, m, d, hh, mi, sc, hE, hY, hN⟩ := fin_facts _ _ (calT_whole HOK.out (HR.out.symm.trans hz))
        obtain ⟨q0, q1, q2, q3, q4, q5, hcap⟩ := cells6 HV.out hE
        have HY := Lib.hid hY
        have HN := Lib.hid hN
        obtain ⟨z1, z2⟩ := list_90 hz
        have hcI : (6 : Int) ≤ (cap : Int) := by omega
        clear hY hN hz hE HV hp
        go_wp2_with fail
        refine (cut_no s' ⟨#[46]⟩ HP.out _).mono ?_
        rintro e w' ⟨rfl, rfl⟩
        clear HP HR
        by_cases hD : Date y m d
        · have HDD := Lib.hid hD
          by_cases h1 : hh ≤ 23
          · by_cases h2 : mi ≤ 59
            · by_cases h3 : sc ≤ 59
              · have HA := Lib.hid (HY.out hD h1 h2 h3)
                have b1 : ¬ (23 : Int) < (hh : Int) := by omega
                have b2 : ¬ (59 : Int) < (mi : Int) := by omega
                have b3 : ¬ (59 : Int) < (sc : Int) := by omega
                have HJ := fun w => Lib.hid (Join_time0 hD h1 h2 h3 w)
                have n1 : (hh : Int) ≤ 23 := by omega
                have n2 : (mi : Int) ≤ 59 := by omega
                have n3 : (sc : Int) ≤ 59 := by omega
                have HDR := Lib.hid hD.range
                clear hD HY HN
                go_wp2_with fail
                go_region_held3 (fun w' => w'.cell? ⟨g, 0, none⟩ = some (.int .i64 (y : Int)) ∧ w'.cell? ⟨g, 1, none⟩ = some (.int .i64 (m : Int)) ∧ w'.cell? ⟨g, 2, none⟩ = some (.int .i64 (d : Int)) ∧ w'.cell? ⟨g, 3, none⟩ = some (.int .i64 (hh : Int)) ∧ w'.cell? ⟨g, 4, none⟩ = some (.int .i64 (mi : Int)) ∧ w'.cell? ⟨g, 5, none⟩ = some (.int .i64 (sc : Int))) (exact ⟨q0, q1, q2, q3, q4, q5⟩) (first | (go_at_call 19; refine (Days_yes _ _ _ HDD.out _).mono ?_; rintro e w' ⟨rfl, rfl⟩))
                go_wp2_with fail
                go_region_held3 (fun w' => w'.cell? ⟨g, 0, none⟩ = some (.int .i64 (y : Int)) ∧ w'.cell? ⟨g, 1, none⟩ = some (.int .i64 (m : Int)) ∧ w'.cell? ⟨g, 2, none⟩ = some (.int .i64 (d : Int)) ∧ w'.cell? ⟨g, 3, none⟩ = some (.int .i64 (hh : Int)) ∧ w'.cell? ⟨g, 4, none⟩ = some (.int .i64 (mi : Int)) ∧ w'.cell? ⟨g, 5, none⟩ = some (.int .i64 (sc : Int))) (exact ⟨q0, q1, q2, q3, q4, q5⟩) (first | (go_at_call 22; refine ((HJ _).out).mono ?_; rintro e w' ⟨rfl, rfl⟩))
                go_wp2_with fail
                go_ret2
                exact ⟨ret2_ints (HA.out.trans (by simp)), HB1.out.drew.drew⟩
              · have HA := Lib.hid (HN.out (fun x => h3 x.2.2.2))
                have b1 : ¬ (23 : Int) < (hh : Int) := by omega
                have b2 : ¬ (59 : Int) < (mi : Int) := by omega
                have b3 : (59 : Int) < (sc : Int) := by omega
                clear hD HY HN
                go_wp2_with fail
                go_region_held3 (fun w' => w'.cell? ⟨g, 0, none⟩ = some (.int .i64 (y : Int)) ∧ w'.cell? ⟨g, 1, none⟩ = some (.int .i64 (m : Int)) ∧ w'.cell? ⟨g, 2, none⟩ = some (.int .i64 (d : Int)) ∧ w'.cell? ⟨g, 3, none⟩ = some (.int .i64 (hh : Int)) ∧ w'.cell? ⟨g, 4, none⟩ = some (.int .i64 (mi : Int)) ∧ w'.cell? ⟨g, 5, none⟩ = some (.int .i64 (sc : Int))) (exact ⟨q0, q1, q2, q3, q4, q5⟩) (first | (go_at_call 19; refine (Days_yes _ _ _ HDD.out _).mono ?_; rintro e w' ⟨rfl, rfl⟩))
                go_wp2_with fail
                go_ret2
                exact ⟨ret2_ints HA.out, HB1.out.drew⟩
            · have HA := Lib.hid (HN.out (fun x => h2 x.2.2.1))
              have b1 : ¬ (23 : Int) < (hh : Int) := by omega
              have b2 : (59 : Int) < (mi : Int) := by omega
              clear hD HY HN
              go_wp2_with fail
              go_region_held3 (fun w' => w'.cell? ⟨g, 0, none⟩ = some (.int .i64 (y : Int)) ∧ w'.cell? ⟨g, 1, none⟩ = some (.int .i64 (m : Int)) ∧ w'.cell? ⟨g, 2, none⟩ = some (.int .i64 (d : Int)) ∧ w'.cell? ⟨g, 3, none⟩ = some (.int .i64 (hh : Int)) ∧ w'.cell? ⟨g, 4, none⟩ = some (.int .i64 (mi : Int)) ∧ w'.cell? ⟨g, 5, none⟩ = some (.int .i64 (sc : Int))) (exact ⟨q0, q1, q2, q3, q4, q5⟩) (first | (go_at_call 19; refine (Days_yes _ _ _ HDD.out _).mono ?_; rintro e w' ⟨rfl, rfl⟩))
              go_wp2_with fail
              go_ret2
              exact ⟨ret2_ints HA.out, HB1.out.drew⟩
          · have HA := Lib.hid (HN.out (fun x => h1 x.2.1))
            have b1 : (23 : Int) < (hh : Int) := by omega
            clear hD HY HN
            go_wp2_with fail
            go_region_held3 (fun w' => w'.cell? ⟨g, 0, none⟩ = some (.int .i64 (y : Int)) ∧ w'.cell? ⟨g, 1, none⟩ = some (.int .i64 (m : Int)) ∧ w'.cell? ⟨g, 2, none⟩ = some (.int .i64 (d : Int)) ∧ w'.cell? ⟨g, 3, none⟩ = some (.int .i64 (hh : Int)) ∧ w'.cell? ⟨g, 4, none⟩ = some (.int .i64 (mi : Int)) ∧ w'.cell? ⟨g, 5, none⟩ = some (.int .i64 (sc : Int))) (exact ⟨q0, q1, q2, q3, q4, q5⟩) (first | (go_at_call 19; refine (Days_yes _ _ _ HDD.out _).mono ?_; rintro e w' ⟨rfl, rfl⟩))
            go_wp2_with fail
            go_ret2
            exact ⟨ret2_ints HA.out, HB1.out.drew⟩
        · have HDD := Lib.hid hD
          have HA := Lib.hid (HN.out (fun x => hD x.1))
          clear hD HY HN
          go_wp2_with fail
          go_region_held3 (fun w' => w'.cell? ⟨g, 0, none⟩ = some (.int .i64 (y : Int)) ∧ w'.cell? ⟨g, 1, none⟩ = some (.int .i64 (m : Int)) ∧ w'.cell? ⟨g, 2, none⟩ = some (.int .i64 (d : Int)) ∧ w'.cell? ⟨g, 3, none⟩ = some (.int .i64 (hh : Int)) ∧ w'.cell? ⟨g, 4, none⟩ = some (.int .i64 (mi : Int)) ∧ w'.cell? ⟨g, 5, none⟩ = some (.int .i64 (sc : Int))) (exact ⟨q0, q1, q2, q3, q4, q5⟩) (first | (go_at_call 19; refine (Days_no _ _ _ HDD.out _).mono ?_; rintro e w' ⟨rfl, rfl⟩))
          go_wp2_with fail
          go_ret2
          exact ⟨ret2_ints HA.out, HB1.out.drew⟩
      · have HF : Hid (calT s.data.toList = (0, 13)) := Lib.hid (calT_whole_no HOK.out (by rw [← HR.out]; exact hp) (fun x => hz (HR.out.trans x)))
        obtain ⟨z1, z2⟩ := list_no90 hz
        clear hz hp
        go_wp2_with fail
        refine (cut_no s' ⟨#[46]⟩ HP.out _).mono ?_
        rintro e w' ⟨rfl, rfl⟩
        go_wp2_with fail
        go_ret2
        exact ⟨ret2_ints HF.out, HB1.out⟩

end Go.Proofs.YthkkjfofpoifiaaDoor
