/- Calendar: the contract of the reference's ParseTime. -/
import Derived.Test.YthkkjfofpoifiaaDoorCalI
namespace Go.Proofs.YthkkjfofpoifiaaDoor
open Go.RowKit
attribute [local go_sem ↓] Go.wp_at_zero Go.wp_at_succ

theorem w64' {n : Int} (h0 : -9223372036854775808 ≤ n) (h1 : n < 9223372036854775808) : wrap64 n = n := by
  unfold wrap64
  omega
theorem sum5 {n : Int} {hh mi sc : Nat} (n1 : -719162 ≤ n) (n2 : n ≤ 2932896) (h1 : hh ≤ 23) (h2 : mi ≤ 59) (h3 : sc ≤ 59) : wrap64 (wrap64 (wrap64 (wrap64 (n * 86400000) + (hh : Int) * 3600000) + (mi : Int) * 60000) + (sc : Int) * 1000) = n * 86400000 + (((60 * (hh : Int) + mi) * 60 + sc) * 1000) := by
  rw [w64' (n := n * 86400000) (by omega) (by omega), w64' (n := n * 86400000 + (hh : Int) * 3600000) (by omega) (by omega), w64' (n := n * 86400000 + (hh : Int) * 3600000 + (mi : Int) * 60000) (by omega) (by omega), w64' (by omega) (by omega)]
  omega
theorem sum_eq {n : Int} {hh mi sc ms : Nat} (n1 : -719162 ≤ n) (n2 : n ≤ 2932896) (h1 : hh ≤ 23) (h2 : mi ≤ 59) (h3 : sc ≤ 59) (h4 : ms ≤ 999) : (n * 86400000 + (((60 * (hh : Int) + mi) * 60 + sc) * 1000 + ms), (0 : Int)) = (wrap64 (wrap64 (wrap64 (wrap64 (wrap64 (n * 86400000) + (hh : Int) * 3600000) + (mi : Int) * 60000) + (sc : Int) * 1000) + ms), 0) := by
  rw [sum5 n1 n2 h1 h2 h3, w64' (by omega) (by omega)]
  exact Prod.ext (by dsimp only; omega) rfl
theorem sum_eq0 {n : Int} {hh mi sc : Nat} (n1 : -719162 ≤ n) (n2 : n ≤ 2932896) (h1 : hh ≤ 23) (h2 : mi ≤ 59) (h3 : sc ≤ 59) : (n * 86400000 + (((60 * (hh : Int) + mi) * 60 + sc) * 1000 + ((0 : Nat) : Int)), (0 : Int)) = (wrap64 (wrap64 (wrap64 (wrap64 (wrap64 (n * 86400000) + (hh : Int) * 3600000) + (mi : Int) * 60000) + (sc : Int) * 1000)), 0) := by
  rw [sum5 n1 n2 h1 h2 h3, w64' (by omega) (by omega)]
  exact Prod.ext (by dsimp only; omega) rfl

/-- The calls of the reference on a time's text. -/
theorem time_calls (s : ByteArray) (h : okN marks6 s.data.toList = true) {y m d hh mi sc : Nat} (e : nums6 s.data.toList = [y, m, d, hh, mi, sc]) :
    (∀ w, Calls Tryd.prog 51 #[.string (s.extract 11 13)] w fun e w' => e = .returned (.int .i64 (hh : Int)) ∧ w = w') ∧
    (∀ w, Calls Tryd.prog 51 #[.string (s.extract 14 16)] w fun e w' => e = .returned (.int .i64 (mi : Int)) ∧ w = w') ∧
    (∀ w, Calls Tryd.prog 51 #[.string (s.extract 17 19)] w fun e w' => e = .returned (.int .i64 (sc : Int)) ∧ w = w') ∧
    (Date y m d → ∀ w, Calls Tryd.prog 33 #[.string (s.extract 0 10)] w fun e w' => e = .returned (.tuple #[.int .i64 (dnum y m d), .int .i64 0]) ∧ Below w.heap.size w w') ∧
    (¬ Date y m d → ∀ w, Calls Tryd.prog 33 #[.string (s.extract 0 10)] w fun e w' => e = .returned (.tuple #[.int .i64 0, .int .i64 17]) ∧ Below w.heap.size w w') := by
  have h' := (ok6 _).1 h
  obtain ⟨h1, h2⟩ := calP_ten h
  unfold DateOf at h1 h2
  have n1 := (numOK_iff.1 h'.2.1).2
  have n2 := (numOK_iff.1 h'.2.2.1).2
  have n3 := (numOK_iff.1 h'.2.2.2.1).2
  unfold nums6 at e
  rw [List.cons.injEq, List.cons.injEq, List.cons.injEq, List.cons.injEq, List.cons.injEq, List.cons.injEq] at e
  obtain ⟨e0, e1, e2, e3, e4, e5, -⟩ := e
  rw [e0, e1, e2] at h1 h2
  have hx : (s.extract 0 10).data.toList = s.data.toList.take 10 := by rw [cut_data]; rfl
  refine ⟨fun w => ?_, fun w => ?_, fun w => ?_, fun hd w => ?_, fun hd w => ?_⟩
  · rw [← e3]; exact rNumber_cut s 11 13 2 rfl (by omega) n1 w
  · rw [← e4]; exact rNumber_cut s 14 16 2 rfl (by omega) n2 w
  · rw [← e5]; exact rNumber_cut s 17 19 2 rfl (by omega) n3 w
  · have := rParse_any (s.extract 0 10) w
    rw [hx, h1 hd] at this
    exact this
  · have := rParse_any (s.extract 0 10) w
    rw [hx, h2 hd] at this
    exact this
theorem ms_call (s : ByteArray) (h : numOK (s.data.toList.drop 20) 3 = true) (w : World) : Calls Tryd.prog 51 #[.string (s.extract 20 23)] w fun e w' => e = .returned (.int .i64 (numL ((s.data.toList.drop 20).take 3) : Int)) ∧ w = w' :=
  rNumber_cut s 20 23 3 rfl (by omega) (numOK_iff.1 h).2 w
theorem cut_zeros (s : ByteArray) : (s.extract 20 23).toList = (s.data.toList.drop 20).take 3 := by rw [toList_data, cut_data]

set_option maxRecDepth 100000 in
set_option maxHeartbeats 4000000 in
theorem rParseTime_any (s : ByteArray) (w : World) : Calls Tryd.prog 35 #[.string s] w fun e w' => e = .returned (.tuple #[.int .i64 (calT s.data.toList).1, .int .i64 (calT s.data.toList).2]) ∧ Below w.heap.size w w' := by
  have HPF : Hid ((⟨#[48, 48, 48, 48, 45, 48, 48, 45, 48, 48, 84, 48, 48, 58, 48, 48, 58, 48, 48, 46, 48, 48, 48, 90]⟩ : ByteArray).data.toList = patF) := Lib.hid rfl
  have HPT : Hid ((⟨#[48, 48, 48, 48, 45, 48, 48, 45, 48, 48, 84, 48, 48, 58, 48, 48, 58, 48, 48, 90]⟩ : ByteArray).data.toList = patT) := Lib.hid rfl
  by_cases hf : formB s.data.toList patF = true
  · have hl := formB_len hf
    have hsz : s.size = 24 := by rw [← size_len]; exact hl
    obtain ⟨hok, hp, hno, hz⟩ := (formF _).1 hf
    have HF := Lib.hid hf
    have hs23 : (23 : Int) ≤ (s.size : Int) := by omega
    have hs20 : (20 : Int) ≤ (s.size : Int) := by omega
    have hk10 : (10 : Int) ≤ (s.size : Int) := by omega
    have hk11 : (11 : Int) ≤ (s.size : Int) := by omega
    have hk13 : (13 : Int) ≤ (s.size : Int) := by omega
    have hk14 : (14 : Int) ≤ (s.size : Int) := by omega
    have hk16 : (16 : Int) ≤ (s.size : Int) := by omega
    have hk17 : (17 : Int) ≤ (s.size : Int) := by omega
    have hk19 : (19 : Int) ≤ (s.size : Int) := by omega
    by_cases h0 : (s.data.toList.drop 20).take 3 = [48, 48, 48]
    · have z1 : ((s.extract 20 23).toList == [48, 48, 48]) = true := by rw [cut_zeros, h0]; rfl
      have z2 : (s.extract 20 23).toList = [48, 48, 48] := by rw [cut_zeros, h0]
      have hT : formB s.data.toList patT = false := (Bool.not_eq_true _).mp (fun x => by have := formB_len x; rw [size_len, hsz] at this; cases this)
      have HT := Lib.hid hT
      have HA := Lib.hid (calT_no (l := s.data.toList) (fun x => x.2 h0) hT)
      clear hl hsz hok hp hno hz hf hT h0
      go_enter Tryd.func35, Tryd.ntmps35
      go_wp2_with fail
      refine (form_any s _ (by decide) _).mono ?_
      rw [HPF.out, HF.out]
      rintro e w1 ⟨rfl, hb1⟩
      have HB1 := Lib.hid hb1
      clear hb1
      go_wp2_with fail
      refine (form_any s _ (by decide) _).mono ?_
      rw [HPT.out, HT.out]
      rintro e w2 ⟨rfl, hb2⟩
      have HB2 := Lib.hid (below_trans HB1.out hb2)
      clear hb2
      go_wp2_with fail
      go_ret2
      exact ⟨ret2_ints HA.out, HB2.out⟩
    · have z1 : ((s.extract 20 23).toList == [48, 48, 48]) = false := by rw [cut_zeros]; simpa using h0
      have z2 : ¬ (s.extract 20 23).toList = [48, 48, 48] := by rw [cut_zeros]; exact h0
      obtain ⟨y, m, d, hh, mi, sc, hE, hY, hN⟩ := fin_facts _ _ (calT_frac hok hp hno (frac_ms hno h0) hz)
      obtain ⟨c1, c2, c3, c4, c5⟩ := time_calls s hok hE
      have HMC := Lib.hid (ms_call s hno)
      have HMB := Lib.hid (ms_bd hno)
      have HC1 := Lib.hid c1
      have HC2 := Lib.hid c2
      have HC3 := Lib.hid c3
      have HC4 := Lib.hid c4
      have HC5 := Lib.hid c5
      have HY := Lib.hid hY
      have HN := Lib.hid hN
      clear hY hN c1 c2 c3 c4 c5 hE hl hsz hok hp hno hz hf h0
      generalize numL ((s.data.toList.drop 20).take 3) = ms at HMC HMB HY
      go_enter Tryd.func35, Tryd.ntmps35
      go_wp2_with fail
      refine (form_any s _ (by decide) _).mono ?_
      rw [HPF.out, HF.out]
      rintro e w1 ⟨rfl, hb1⟩
      have HB1 := Lib.hid hb1
      clear hb1
      go_wp2_with fail
      refine (HMC.out _).mono ?_
      rintro e w' ⟨rfl, rfl⟩
      by_cases hD : Date y m d
      · have HDR := Lib.hid hD.range
        have HCP := Lib.hid (HC4.out hD)
        by_cases h1 : hh ≤ 23
        · by_cases h2 : mi ≤ 59
          · by_cases h3 : sc ≤ 59
            · have HA := Lib.hid (HY.out hD h1 h2 h3)
              have b1 : ¬ (23 : Int) < (hh : Int) := by omega
              have b2 : ¬ (59 : Int) < (mi : Int) := by omega
              have b3 : ¬ (59 : Int) < (sc : Int) := by omega
              clear hD HY HN HC4 HC5
              go_wp2_with fail
              refine (HCP.out _).mono ?_
              rintro e w2 ⟨rfl, hb2⟩
              have HB2 := Lib.hid (below_trans HB1.out hb2)
              clear hb2
              go_wp2_with fail
              go_region_held3 (fun _ => True) (trivial) (first | (go_at_call 51; with_reducible refine (HC1.out _).mono ?_; rintro e w' ⟨rfl, rfl⟩) | (go_at_call 51; with_reducible refine (HC2.out _).mono ?_; rintro e w' ⟨rfl, rfl⟩) | (go_at_call 51; with_reducible refine (HC3.out _).mono ?_; rintro e w' ⟨rfl, rfl⟩))
              go_wp2_with fail
              go_ret2
              exact ⟨ret2_ints (HA.out.trans (sum_eq HDR.out.1 HDR.out.2 h1 h2 h3 HMB.out)), HB2.out.drew⟩
            · have HA := Lib.hid (HN.out (fun x => h3 x.2.2.2))
              have b1 : ¬ (23 : Int) < (hh : Int) := by omega
              have b2 : ¬ (59 : Int) < (mi : Int) := by omega
              have b3 : (59 : Int) < (sc : Int) := by omega
              clear hD HY HN HC4 HC5
              go_wp2_with fail
              refine (HCP.out _).mono ?_
              rintro e w2 ⟨rfl, hb2⟩
              have HB2 := Lib.hid (below_trans HB1.out hb2)
              clear hb2
              go_wp2_with fail
              go_region_held3 (fun _ => True) (trivial) (first | (go_at_call 51; with_reducible refine (HC1.out _).mono ?_; rintro e w' ⟨rfl, rfl⟩) | (go_at_call 51; with_reducible refine (HC2.out _).mono ?_; rintro e w' ⟨rfl, rfl⟩) | (go_at_call 51; with_reducible refine (HC3.out _).mono ?_; rintro e w' ⟨rfl, rfl⟩))
              go_wp2_with fail
              go_ret2
              exact ⟨ret2_ints HA.out, HB2.out.drew⟩
          · have HA := Lib.hid (HN.out (fun x => h2 x.2.2.1))
            have b1 : ¬ (23 : Int) < (hh : Int) := by omega
            have b2 : (59 : Int) < (mi : Int) := by omega
            clear hD HY HN HC4 HC5
            go_wp2_with fail
            refine (HCP.out _).mono ?_
            rintro e w2 ⟨rfl, hb2⟩
            have HB2 := Lib.hid (below_trans HB1.out hb2)
            clear hb2
            go_wp2_with fail
            go_region_held3 (fun _ => True) (trivial) (first | (go_at_call 51; with_reducible refine (HC1.out _).mono ?_; rintro e w' ⟨rfl, rfl⟩) | (go_at_call 51; with_reducible refine (HC2.out _).mono ?_; rintro e w' ⟨rfl, rfl⟩) | (go_at_call 51; with_reducible refine (HC3.out _).mono ?_; rintro e w' ⟨rfl, rfl⟩))
            go_wp2_with fail
            go_ret2
            exact ⟨ret2_ints HA.out, HB2.out.drew⟩
        · have HA := Lib.hid (HN.out (fun x => h1 x.2.1))
          have b1 : (23 : Int) < (hh : Int) := by omega
          clear hD HY HN HC4 HC5
          go_wp2_with fail
          refine (HCP.out _).mono ?_
          rintro e w2 ⟨rfl, hb2⟩
          have HB2 := Lib.hid (below_trans HB1.out hb2)
          clear hb2
          go_wp2_with fail
          go_region_held3 (fun _ => True) (trivial) (first | (go_at_call 51; with_reducible refine (HC1.out _).mono ?_; rintro e w' ⟨rfl, rfl⟩) | (go_at_call 51; with_reducible refine (HC2.out _).mono ?_; rintro e w' ⟨rfl, rfl⟩) | (go_at_call 51; with_reducible refine (HC3.out _).mono ?_; rintro e w' ⟨rfl, rfl⟩))
          go_wp2_with fail
          go_ret2
          exact ⟨ret2_ints HA.out, HB2.out.drew⟩
      · have HCP := Lib.hid (HC5.out hD)
        have HA := Lib.hid (HN.out (fun x => hD x.1))
        clear hD HY HN HC4 HC5
        go_wp2_with fail
        refine (HCP.out _).mono ?_
        rintro e w2 ⟨rfl, hb2⟩
        have HB2 := Lib.hid (below_trans HB1.out hb2)
        clear hb2
        go_wp2_with fail
        go_region_held3 (fun _ => True) (trivial) (first | (go_at_call 51; with_reducible refine (HC1.out _).mono ?_; rintro e w' ⟨rfl, rfl⟩) | (go_at_call 51; with_reducible refine (HC2.out _).mono ?_; rintro e w' ⟨rfl, rfl⟩) | (go_at_call 51; with_reducible refine (HC3.out _).mono ?_; rintro e w' ⟨rfl, rfl⟩))
        go_wp2_with fail
        go_ret2
        exact ⟨ret2_ints HA.out, HB2.out.drew⟩
  · have HF : Hid (formB s.data.toList patF = false) := Lib.hid ((Bool.not_eq_true _).mp hf)
    by_cases hT : formB s.data.toList patT = true
    · have HT := Lib.hid hT
      have hl := formB_len hT
      have hsz : s.size = 20 := by rw [← size_len]; exact hl
      obtain ⟨hok, hz⟩ := (formT _).1 hT
      have hk10 : (10 : Int) ≤ (s.size : Int) := by omega
      have hk11 : (11 : Int) ≤ (s.size : Int) := by omega
      have hk13 : (13 : Int) ≤ (s.size : Int) := by omega
      have hk14 : (14 : Int) ≤ (s.size : Int) := by omega
      have hk16 : (16 : Int) ≤ (s.size : Int) := by omega
      have hk17 : (17 : Int) ≤ (s.size : Int) := by omega
      have hk19 : (19 : Int) ≤ (s.size : Int) := by omega
      obtain ⟨y, m, d, hh, mi, sc, hE, hY, hN⟩ := fin_facts _ _ (calT_whole hok hz)
      obtain ⟨c1, c2, c3, c4, c5⟩ := time_calls s hok hE
      have HC1 := Lib.hid c1
      have HC2 := Lib.hid c2
      have HC3 := Lib.hid c3
      have HC4 := Lib.hid c4
      have HC5 := Lib.hid c5
      have HY := Lib.hid hY
      have HN := Lib.hid hN
      clear hY hN c1 c2 c3 c4 c5 hE hl hsz hok hz hf hT
      go_enter Tryd.func35, Tryd.ntmps35
      go_wp2_with fail
      refine (form_any s _ (by decide) _).mono ?_
      rw [HPF.out, HF.out]
      rintro e w0 ⟨rfl, hb0⟩
      have HB0 := Lib.hid hb0
      clear hb0
      go_wp2_with fail
      refine (form_any s _ (by decide) _).mono ?_
      rw [HPT.out, HT.out]
      rintro e w1 ⟨rfl, hb1⟩
      have HB1 := Lib.hid (below_trans HB0.out hb1)
      clear hb1
      by_cases hD : Date y m d
      · have HDR := Lib.hid hD.range
        have HCP := Lib.hid (HC4.out hD)
        by_cases h1 : hh ≤ 23
        · by_cases h2 : mi ≤ 59
          · by_cases h3 : sc ≤ 59
            · have HA := Lib.hid (HY.out hD h1 h2 h3)
              have b1 : ¬ (23 : Int) < (hh : Int) := by omega
              have b2 : ¬ (59 : Int) < (mi : Int) := by omega
              have b3 : ¬ (59 : Int) < (sc : Int) := by omega
              clear hD HY HN HC4 HC5
              go_wp2_with fail
              refine (HCP.out _).mono ?_
              rintro e w2 ⟨rfl, hb2⟩
              have HB2 := Lib.hid (below_trans HB1.out hb2)
              clear hb2
              go_wp2_with fail
              go_region_held3 (fun _ => True) (trivial) (first | (go_at_call 51; with_reducible refine (HC1.out _).mono ?_; rintro e w' ⟨rfl, rfl⟩) | (go_at_call 51; with_reducible refine (HC2.out _).mono ?_; rintro e w' ⟨rfl, rfl⟩) | (go_at_call 51; with_reducible refine (HC3.out _).mono ?_; rintro e w' ⟨rfl, rfl⟩))
              go_wp2_with fail
              go_ret2
              exact ⟨ret2_ints (HA.out.trans (sum_eq0 HDR.out.1 HDR.out.2 h1 h2 h3)), HB2.out.drew⟩
            · have HA := Lib.hid (HN.out (fun x => h3 x.2.2.2))
              have b1 : ¬ (23 : Int) < (hh : Int) := by omega
              have b2 : ¬ (59 : Int) < (mi : Int) := by omega
              have b3 : (59 : Int) < (sc : Int) := by omega
              clear hD HY HN HC4 HC5
              go_wp2_with fail
              refine (HCP.out _).mono ?_
              rintro e w2 ⟨rfl, hb2⟩
              have HB2 := Lib.hid (below_trans HB1.out hb2)
              clear hb2
              go_wp2_with fail
              go_region_held3 (fun _ => True) (trivial) (first | (go_at_call 51; with_reducible refine (HC1.out _).mono ?_; rintro e w' ⟨rfl, rfl⟩) | (go_at_call 51; with_reducible refine (HC2.out _).mono ?_; rintro e w' ⟨rfl, rfl⟩) | (go_at_call 51; with_reducible refine (HC3.out _).mono ?_; rintro e w' ⟨rfl, rfl⟩))
              go_wp2_with fail
              go_ret2
              exact ⟨ret2_ints HA.out, HB2.out.drew⟩
          · have HA := Lib.hid (HN.out (fun x => h2 x.2.2.1))
            have b1 : ¬ (23 : Int) < (hh : Int) := by omega
            have b2 : (59 : Int) < (mi : Int) := by omega
            clear hD HY HN HC4 HC5
            go_wp2_with fail
            refine (HCP.out _).mono ?_
            rintro e w2 ⟨rfl, hb2⟩
            have HB2 := Lib.hid (below_trans HB1.out hb2)
            clear hb2
            go_wp2_with fail
            go_region_held3 (fun _ => True) (trivial) (first | (go_at_call 51; with_reducible refine (HC1.out _).mono ?_; rintro e w' ⟨rfl, rfl⟩) | (go_at_call 51; with_reducible refine (HC2.out _).mono ?_; rintro e w' ⟨rfl, rfl⟩) | (go_at_call 51; with_reducible refine (HC3.out _).mono ?_; rintro e w' ⟨rfl, rfl⟩))
            go_wp2_with fail
            go_ret2
            exact ⟨ret2_ints HA.out, HB2.out.drew⟩
        · have HA := Lib.hid (HN.out (fun x => h1 x.2.1))
          have b1 : (23 : Int) < (hh : Int) := by omega
          clear hD HY HN HC4 HC5
          go_wp2_with fail
          refine (HCP.out _).mono ?_
          rintro e w2 ⟨rfl, hb2⟩
          have HB2 := Lib.hid (below_trans HB1.out hb2)
          clear hb2
          go_wp2_with fail
          go_region_held3 (fun _ => True) (trivial) (first | (go_at_call 51; with_reducible refine (HC1.out _).mono ?_; rintro e w' ⟨rfl, rfl⟩) | (go_at_call 51; with_reducible refine (HC2.out _).mono ?_; rintro e w' ⟨rfl, rfl⟩) | (go_at_call 51; with_reducible refine (HC3.out _).mono ?_; rintro e w' ⟨rfl, rfl⟩))
          go_wp2_with fail
          go_ret2
          exact ⟨ret2_ints HA.out, HB2.out.drew⟩
      · have HCP := Lib.hid (HC5.out hD)
        have HA := Lib.hid (HN.out (fun x => hD x.1))
        clear hD HY HN HC4 HC5
        go_wp2_with fail
        refine (HCP.out _).mono ?_
        rintro e w2 ⟨rfl, hb2⟩
        have HB2 := Lib.hid (below_trans HB1.out hb2)
        clear hb2
        go_wp2_with fail
        go_region_held3 (fun _ => True) (trivial) (first | (go_at_call 51; with_reducible refine (HC1.out _).mono ?_; rintro e w' ⟨rfl, rfl⟩) | (go_at_call 51; with_reducible refine (HC2.out _).mono ?_; rintro e w' ⟨rfl, rfl⟩) | (go_at_call 51; with_reducible refine (HC3.out _).mono ?_; rintro e w' ⟨rfl, rfl⟩))
        go_wp2_with fail
        go_ret2
        exact ⟨ret2_ints HA.out, HB2.out.drew⟩
    · have HT : Hid (formB s.data.toList patT = false) := Lib.hid ((Bool.not_eq_true _).mp hT)
      have HA := Lib.hid (calT_no (l := s.data.toList) (fun x => hf x.1) HT.out)
      clear hf hT
      go_enter Tryd.func35, Tryd.ntmps35
      go_wp2_with fail
      refine (form_any s _ (by decide) _).mono ?_
      rw [HPF.out, HF.out]
      rintro e w1 ⟨rfl, hb1⟩
      have HB1 := Lib.hid hb1
      clear hb1
      go_wp2_with fail
      refine (form_any s _ (by decide) _).mono ?_
      rw [HPT.out, HT.out]
      rintro e w2 ⟨rfl, hb2⟩
      have HB2 := Lib.hid (below_trans HB1.out hb2)
      clear hb2
      go_wp2_with fail
      go_ret2
      exact ⟨ret2_ints HA.out, HB2.out⟩

end Go.Proofs.YthkkjfofpoifiaaDoor
