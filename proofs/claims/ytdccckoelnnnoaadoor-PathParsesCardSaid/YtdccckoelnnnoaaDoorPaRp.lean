/- Path: contract of the reference's Parse. (printed by gen_parp.py) -/
import Derived.Test.YtdccckoelnnnoaaDoorPaR
import Derived.BigRegion
import Derived.Deep.RegionLaw
namespace Go.Proofs.YtdccckoelnnnoaaDoor
open Go.RowKit
attribute [local go_sem ↓] Go.wp_at_zero Go.wp_at_succ

theorem infoRp : (Tryd.prog.info? 44).map (fun i => (i.zero, i.size, i.bytes)) = some (some (.agg #[.int .i64 0, .int .i64 0, .string ByteArray.empty]), 3, 32) := by kernel_rfl
/-- What the rest is behind the parts that are read. -/
def restR (s : List UInt8) (D : List Pt) (a : Nat) : List UInt8 := if D = [] then 46 :: s else s.drop a
def ParRel (s : ByteArray) (w : World) (D : List Pt) (a : Nat) (lv : Value) (wx : World) : Prop :=
  (D = [] → a = 0) ∧ (0 < D.length → 0 < a) ∧ D.length ≤ a ∧ ParTo s.data.toList D (restR s.data.toList D a) ∧ wx.ownsRow w.heap.size 44 3 lv D.length (ptVals D) ∧ Only Nobody w wx
theorem ParRel.next {s : ByteArray} {w wx w2 w5 : World} {D : List Pt} {a a' : Nat} {lv v5 : Value} {p : Pt} {rest : List UInt8} (h : ParRel s w D a lv wx) (hst : stepR (restR s.data.toList D a) = some (p, rest)) (hr : rest = s.data.toList.drop a') (ha : a < a')
    (ho : Only Nobody wx w2) (hown : w5.ownsRow w.heap.size 44 3 v5 (D.length + 1) (ptVals D ++ p.vals)) (hg : w2.grownBy w5 lv.ownBlock) : ParRel s w (D ++ [p]) a' v5 w5 := by
  obtain ⟨h1, h2, h3, h4, h5, h6⟩ := h
  refine ⟨fun e => by simp at e, fun _ => by omega, by simp; omega, ?_, ?_, ?_⟩
  · have := h4.nextR hst
    unfold restR
    rw [if_neg (by simp), ← hr]
    exact this
  · rw [List.length_append, ptVals_append]
    simpa [ptVals] using hown
  · exact h6.trans_more ((ho.mono (fun _ x => x.elim)).trans (Only.of_grown hg (fun b e => .inr (h5.lt b e).1)))
theorem take_nextB {l : List UInt8} {j : Nat} {x : UInt8} (h : l[j]? = some x) : l.take (j + 1) = l.take j ++ [x] := by
  have hj : j < l.length := (List.getElem?_eq_some_iff.1 h).1
  rw [List.take_succ_eq_append_getElem hj]
  rw [List.getElem?_eq_getElem hj] at h
  rw [Option.some.inj h]
set_option maxRecDepth 100000 in
set_option maxHeartbeats 16000000 in
theorem rparse_any (s : ByteArray) (hz : s.size ≤ 100000) (w : World) : Calls Tryd.prog 20 #[.string s] w (ParPost 44 (parL s.data.toList) (parE s.data.toList) w) := by
  by_cases h0 : s.size = 0
  · have HE := Lib.hid (parL_empty h0)
    obtain rfl := size_zero h0
    clear h0
    go_enter Tryd.func20, Tryd.ntmps20
    go_wp2_with fail
    go_ret2
    exact par_err HE.out (Only.refl _ _)
  have hn0 := ne_nil h0
  have hn1 := ne_nil' h0
  have hn2 := ne_nil2 h0
  by_cases h2 : 200 < s.size
  · have HE := Lib.hid (parL_long h2)
    have h2I : (200 : Int) < (s.size : Int) := by omega
    clear h0 h2
    go_enter Tryd.func20, Tryd.ntmps20
    go_wp2_with fail
    go_ret2
    exact par_err HE.out (Only.refl _ _)
  have h2I : ¬ (200 : Int) < (s.size : Int) := by omega
  have hs200 : s.size ≤ 200 := by omega
  have HPOS := Lib.hid (show 0 < s.size ∧ s.size ≤ 200 by omega)
  clear h0 h2
  go_enter Tryd.func20, Tryd.ntmps20
  go_wp2_with fail
  go_loopg [4, 5] s.size (fun g lv av wx => ∃ (D : List Pt) (a : Nat), av = .int .i64 (a : Int) ∧ a + g = s.size ∧ Hid (ParRel s w D a lv wx))
  case atStart => exact ⟨[], 0, rfl, by omega, Lib.hid ⟨fun _ => rfl, fun h => absurd h (by simp), Nat.le_refl _, ParTo.start _, ⟨rfl, .inl ⟨rfl, rfl⟩⟩, Only.refl _ _⟩⟩
  case round =>
    obtain ⟨D, a, rfl, hag, HREL⟩ := hrel
    have ha0 : (0 : Int) ≤ (a : Int) := by omega
    obtain ⟨A4, c4, rfl⟩ := own_form HREL.out.2.2.2.2.1
    by_cases has : a < s.size
    case neg =>
      obtain rfl : a = s.size := by omega
      have HDN : Hid (parsesL s.data.toList = some D) := Lib.hid (by
        have h4 := HREL.out.2.2.2.1
        have h1 := HREL.out.1
        have hp := HPOS.out.1
        unfold restR at h4
        rw [if_neg (fun e => by have := h1 e; omega), List.drop_eq_nil_of_le (by rw [size_len]; exact Nat.le_refl _)] at h4
        exact h4.done)
      by_cases h16 : 16 < D.length
      · have HE := Lib.hid (parL_many HPOS.out.1 HPOS.out.2 HDN.out h16)
        have hI : (16 : Int) < (D.length : Int) := by omega
        clear h16
        go_wp2_with fail
        go_ret2
        exact par_err HE.out HREL.out.2.2.2.2.2
      · have HE := Lib.hid (parL_ok HPOS.out.1 HPOS.out.2 HDN.out h16)
        have hI : ¬ (16 : Int) < (D.length : Int) := by omega
        clear h16
        go_wp2_with fail
        go_ret2
        exact par_fin HE.out HREL.out.2.2.2.2.1 HREL.out.2.2.2.2.2
    have hasI : (a : Int) < (s.size : Int) := by omega
    obtain ⟨gg, rfl⟩ : ∃ gg, gk = gg + 1 := ⟨gk - 1, by omega⟩
    obtain ⟨c, hc⟩ : ∃ c, s[a] = c := ⟨_, rfl⟩
    obtain ⟨cn, HCN⟩ : ∃ cn, Hid (c.toNat = cn) := ⟨_, Lib.hid rfl⟩
    have hb0 : (s[a]).toNat = cn := by rw [hc, HCN.out]
    have HDR : Hid (s.data.toList.drop a = c :: s.data.toList.drop (a + 1)) := Lib.hid (by
      rw [List.drop_eq_getElem_cons (by rw [size_len]; exact has)]
      have : s.data.toList[a]'(by rw [size_len]; exact has) = c := by rw [← hc]; rfl
      rw [this])
    have HNE : Hid (restR s.data.toList D a ≠ []) := Lib.hid (by
      unfold restR
      by_cases e : D = []
      · rw [if_pos e]; simp
      · rw [if_neg e, HDR.out]; simp)
    have HERR : Hid (stepR (restR s.data.toList D a) = none → parL s.data.toList = [] ∧ parE s.data.toList = 13) := Lib.hid fun h =>
      parL_none HPOS.out.1 HPOS.out.2 (HREL.out.2.2.2.1.failR HNE.out h)
    have HON := Lib.hid HREL.out.2.2.2.2.2
    have HDL : Hid (D.length ≤ 200) := Lib.hid (by have := HREL.out.2.2.1; omega)
    obtain ⟨dn, HDN⟩ : ∃ dn, Hid (D.length = dn) := ⟨_, Lib.hid rfl⟩
    rw [HDN.out]
    have HROW : Hid (∀ w', Only Nobody wr w' → w'.ownsRow w.heap.size 44 3 (.slice A4 dn c4) dn (ptVals D)) := Lib.hid fun w' ho => by
      have := ho.row HREL.out.2.2.2.2.1 (fun _ _ x => x)
      rw [HDN.out] at this
      exact this
    have HBY : Hid (dn + 1 ≤ maxLen ∧ (dn + 1) * 32 ≤ 140737488355328) := Lib.hid (by have := HDL.out; rw [HDN.out] at this; unfold maxLen; omega)
    have HBZ : Hid (w.heap.size ≤ wr.heap.size) := Lib.hid HON.out.size
    obtain ⟨i0, hi0, hz0, hz1, hz2⟩ := info_parts infoRp
    have HERR2 : Hid (∀ w', Only Nobody wr w' → stepR (restR s.data.toList D a) = none → ParPost 44 (parL s.data.toList) (parE s.data.toList) w (.returned (.tuple #[.slice none 0 0, .int .i64 13])) w') := Lib.hid fun w' ho hst => par_err (HERR.out hst) (HON.out.trans ho)
    clear hc
    by_cases hd0 : dn = 0
    · subst hd0
      have HDE : Hid (D = []) := Lib.hid (List.eq_nil_of_length_eq_zero HDN.out)
      obtain rfl : a = 0 := HREL.out.1 HDE.out
      have HRS : Hid (restR s.data.toList D 0 = 46 :: s.data.toList) := Lib.hid (by unfold restR; rw [if_pos HDE.out])
      obtain ⟨E, HE⟩ : ∃ E, Hid (wordEnd s (0) = E) := ⟨_, Lib.hid rfl⟩
      have hbd := word_bd s (0) (by omega)
      have HWL := Lib.hid (word_list s (0) (by omega))
      rw [HE.out] at hbd HWL
      have HWD : Hid (∀ w', Calls Tryd.prog 45 #[.string s, .int .i64 (0)] w' fun e w'' => e = .returned (.int .i64 (E : Int)) ∧ w' = w'') := Lib.hid fun w' => by
        have := word_any s (0) (by omega) (by omega) w'
        rw [HE.out] at this
        simpa using this
      by_cases hEe : E = 0
      · have hEb : ((E : Int) == 0) = true := by rw [hEe]; simp
        have HST : Hid (stepR (restR s.data.toList D 0) = none) := Lib.hid (by
          have hw : wordL (s.data.toList.drop (0)) = 0 := by have := HWL.out; omega
          rw [HRS.out]
          simp only [stepR]
          rw [if_pos (by simp)]
          rw [List.drop_zero] at hw
          rw [if_pos hw])
        clear hEe
        go_wp2_with fail
        refine (HWD.out _).mono ?_
        rintro e w2 ⟨rfl, rfl⟩
        go_wp2_with fail
        go_ret2
        exact HERR2.out _ ((Only.refl _ _).alloc _) HST.out
      · have hEb : ((E : Int) == 0) = false := by simp; omega
        have HST : Hid (stepR (restR s.data.toList D 0) = some (⟨1, 0, s.extract (0) E⟩, s.data.toList.drop E)) := Lib.hid (by
          have hw : ¬ wordL (s.data.toList.drop (0)) = 0 := by have := HWL.out; omega
          have hwe : wordL (s.data.toList.drop (0)) = E - (0) := by have := HWL.out; omega
          rw [HRS.out]
          simp only [stepR]
          rw [if_pos (by simp)]
          rw [List.drop_zero] at hw hwe
          rw [if_neg hw, hwe, extract_bs rfl]
          simp [kindOf]
          skip)
        have hE1 : (0 : Int) ≤ (E : Int) := by omega
        have hE2 : (E : Int) ≤ (s.size : Int) := by omega
        have hE3 : 0 < E := by omega
        obtain ⟨nm, HNM⟩ : ∃ nm, Hid (s.extract (0) E = nm) := ⟨_, Lib.hid rfl⟩
        rw [HNM.out] at HST
        clear hEe
        skip
        have HRD : Hid (Reads ((wr.alloc (.cells #[.int .i64 1, .int .i64 0, .string nm] 44)).alloc (.cells #[.int .i64 1, .int .i64 0, .string nm] 44)) ((wr.alloc (.cells #[.int .i64 1, .int .i64 0, .string nm] 44)).heap.size + 1) 3 (some ⟨(wr.alloc (.cells #[.int .i64 1, .int .i64 0, .string nm] 44)).heap.size, 0, none⟩) 1 (Pt.vals ⟨1, 0, nm⟩)) := Lib.hid (reads_alloc _ 44 #[.int .i64 1, .int .i64 0, .string nm] 3 1 rfl)
        have HZS : Hid ((wr.alloc (.cells #[.int .i64 1, .int .i64 0, .string nm] 44)).heap.size = wr.heap.size + 1) := Lib.hid (by simp)
        rw [HZS.out] at HRD
        have HOW : Hid (Only Nobody wr ((wr.alloc (.cells #[.int .i64 1, .int .i64 0, .string nm] 44)).alloc (.cells #[.int .i64 1, .int .i64 0, .string nm] 44))) := Lib.hid (((Only.refl _ _).alloc _).alloc _)
        have HRW := Lib.hid (HROW.out _ HOW.out)
        have HBB : Hid (w.heap.size ≤ ((wr.alloc (.cells #[.int .i64 1, .int .i64 0, .string nm] 44)).alloc (.cells #[.int .i64 1, .int .i64 0, .string nm] 44)).heap.size) := Lib.hid (Nat.le_trans HBZ.out HOW.out.size)
        have HU := Lib.hid (one_pt ⟨1, 0, nm⟩)
        go_wp2_with fail
        refine (HWD.out _).mono ?_
        rintro e w2 ⟨rfl, rfl⟩
        go_upto_region 40 with fail
        rw [HNM.out]
        go_wp2_with (at_builtin; refine wpList_append_any _ rfl (.tmp 147) (.tmp 149) _ rfl w.heap.size 44 i0 _ 3 32 Tryd.underlying26 hi0 hz0 hz1 hz2 rfl (by omega) (.slice A4 0 c4) 0 (ptVals D) rfl HRW.out _ (some ⟨wr.heap.size + 1, 0, none⟩) 1 1 (Pt.vals ⟨1, 0, nm⟩) rfl HRD.out HU.out HBY.out.1 HBY.out.2 HBB.out ?_)
        intro v5 w5 hown5 hgr5 hat5
        have HNEXT : Hid (ParRel s w (D ++ [⟨1, 0, nm⟩]) E v5 w5) := Lib.hid (ParRel.next HREL.out HST.out rfl hE3 HOW.out (by rw [HDN.out]; exact hown5) (by rw [HDN.out]; exact hgr5))
        clear hown5 hgr5 hat5
        go_wp2_with fail
        go_roundg (s.size - E)
        case measure => omega
        case rel => exact ⟨_, E, rfl, by omega, HNEXT⟩
    have hdI : (0 : Int) < (dn : Int) := by omega
    have HRSC : Hid (restR s.data.toList D a = c :: s.data.toList.drop (a + 1)) := Lib.hid (by
      unfold restR
      rw [if_neg (fun e => hd0 (by rw [← HDN.out, e]; rfl))]
      exact HDR.out)
    have hcb : (cn : Int) < 256 := by rw [← HCN.out]; have := c.toNat_lt; omega
    by_cases h46 : c = 46
    · subst h46
      obtain rfl : cn = 46 := HCN.out.symm
      have HRS := HRSC
      obtain ⟨E, HE⟩ : ∃ E, Hid (wordEnd s (a + 1) = E) := ⟨_, Lib.hid rfl⟩
      have hbd := word_bd s (a + 1) (by omega)
      have HWL := Lib.hid (word_list s (a + 1) (by omega))
      rw [HE.out] at hbd HWL
      have HWD : Hid (∀ w', Calls Tryd.prog 45 #[.string s, .int .i64 ((a : Int) + 1)] w' fun e w'' => e = .returned (.int .i64 (E : Int)) ∧ w' = w'') := Lib.hid fun w' => by
        have := word_any s (a + 1) (by omega) (by omega) w'
        rw [HE.out] at this
        push_cast at this; exact this
      by_cases hEe : E = a + 1
      · have hEb : ((E : Int) == (a : Int) + 1) = true := by rw [hEe]; simp
        have HST : Hid (stepR (restR s.data.toList D a) = none) := Lib.hid (by
          have hw : wordL (s.data.toList.drop (a + 1)) = 0 := by have := HWL.out; omega
          rw [HRS.out]
          simp only [stepR]
          rw [if_pos (by simp)]
          skip
          rw [if_pos hw])
        clear hEe
        go_wp2_with fail
        refine (HWD.out _).mono ?_
        rintro e w2 ⟨rfl, rfl⟩
        go_wp2_with fail
        go_ret2
        exact HERR2.out _ ((Only.refl _ _).alloc _) HST.out
      · have hEb : ((E : Int) == (a : Int) + 1) = false := by simp; omega
        have HST : Hid (stepR (restR s.data.toList D a) = some (⟨1, 0, s.extract (a + 1) E⟩, s.data.toList.drop E)) := Lib.hid (by
          have hw : ¬ wordL (s.data.toList.drop (a + 1)) = 0 := by have := HWL.out; omega
          have hwe : wordL (s.data.toList.drop (a + 1)) = E - (a + 1) := by have := HWL.out; omega
          rw [HRS.out]
          simp only [stepR]
          rw [if_pos (by simp)]
          skip
          rw [if_neg hw, hwe, extract_bs rfl]
          simp [kindOf]
          omega)
        have hE1 : ((a : Int) + 1 : Int) ≤ (E : Int) := by omega
        have hE2 : (E : Int) ≤ (s.size : Int) := by omega
        have hE3 : a < E := by omega
        obtain ⟨nm, HNM⟩ : ∃ nm, Hid (s.extract (a + 1) E = nm) := ⟨_, Lib.hid rfl⟩
        rw [HNM.out] at HST
        clear hEe
        have hto : ((a : Int) + 1).toNat = a + 1 := by omega
        have HRD : Hid (Reads ((wr.alloc (.cells #[.int .i64 1, .int .i64 0, .string nm] 44)).alloc (.cells #[.int .i64 1, .int .i64 0, .string nm] 44)) ((wr.alloc (.cells #[.int .i64 1, .int .i64 0, .string nm] 44)).heap.size + 1) 3 (some ⟨(wr.alloc (.cells #[.int .i64 1, .int .i64 0, .string nm] 44)).heap.size, 0, none⟩) 1 (Pt.vals ⟨1, 0, nm⟩)) := Lib.hid (reads_alloc _ 44 #[.int .i64 1, .int .i64 0, .string nm] 3 1 rfl)
        have HZS : Hid ((wr.alloc (.cells #[.int .i64 1, .int .i64 0, .string nm] 44)).heap.size = wr.heap.size + 1) := Lib.hid (by simp)
        rw [HZS.out] at HRD
        have HOW : Hid (Only Nobody wr ((wr.alloc (.cells #[.int .i64 1, .int .i64 0, .string nm] 44)).alloc (.cells #[.int .i64 1, .int .i64 0, .string nm] 44))) := Lib.hid (((Only.refl _ _).alloc _).alloc _)
        have HRW := Lib.hid (HROW.out _ HOW.out)
        have HBB : Hid (w.heap.size ≤ ((wr.alloc (.cells #[.int .i64 1, .int .i64 0, .string nm] 44)).alloc (.cells #[.int .i64 1, .int .i64 0, .string nm] 44)).heap.size) := Lib.hid (Nat.le_trans HBZ.out HOW.out.size)
        have HU := Lib.hid (one_pt ⟨1, 0, nm⟩)
        go_wp2_with fail
        refine (HWD.out _).mono ?_
        rintro e w2 ⟨rfl, rfl⟩
        go_upto_region 40 with fail
        rw [HNM.out]
        go_wp2_with (at_builtin; refine wpList_append_any _ rfl (.tmp 147) (.tmp 149) _ rfl w.heap.size 44 i0 _ 3 32 Tryd.underlying26 hi0 hz0 hz1 hz2 rfl (by omega) (.slice A4 dn c4) dn (ptVals D) rfl HRW.out _ (some ⟨wr.heap.size + 1, 0, none⟩) 1 1 (Pt.vals ⟨1, 0, nm⟩) rfl HRD.out HU.out HBY.out.1 HBY.out.2 HBB.out ?_)
        intro v5 w5 hown5 hgr5 hat5
        have HNEXT : Hid (ParRel s w (D ++ [⟨1, 0, nm⟩]) E v5 w5) := Lib.hid (ParRel.next HREL.out HST.out rfl hE3 HOW.out (by rw [HDN.out]; exact hown5) (by rw [HDN.out]; exact hgr5))
        clear hown5 hgr5 hat5
        go_wp2_with fail
        go_roundg (s.size - E)
        case measure => omega
        case rel => exact ⟨_, E, rfl, by omega, HNEXT⟩
    have hz46 : ((cn : Int) == 46) = false := by
      rw [← HCN.out]; simp; intro e; exact h46 (UInt8.toNat_inj.1 (by have : (46 : UInt8).toNat = 46 := rfl; omega))
    by_cases h63 : c = 63
    · subst h63
      obtain rfl : cn = 63 := HCN.out.symm
      have HRS := HRSC
      obtain ⟨E, HE⟩ : ∃ E, Hid (wordEnd s (a + 1) = E) := ⟨_, Lib.hid rfl⟩
      have hbd := word_bd s (a + 1) (by omega)
      have HWL := Lib.hid (word_list s (a + 1) (by omega))
      rw [HE.out] at hbd HWL
      have HWD : Hid (∀ w', Calls Tryd.prog 45 #[.string s, .int .i64 ((a : Int) + 1)] w' fun e w'' => e = .returned (.int .i64 (E : Int)) ∧ w' = w'') := Lib.hid fun w' => by
        have := word_any s (a + 1) (by omega) (by omega) w'
        rw [HE.out] at this
        push_cast at this; exact this
      by_cases hEe : E = a + 1
      · have hEb : ((E : Int) == (a : Int) + 1) = true := by rw [hEe]; simp
        have HST : Hid (stepR (restR s.data.toList D a) = none) := Lib.hid (by
          have hw : wordL (s.data.toList.drop (a + 1)) = 0 := by have := HWL.out; omega
          rw [HRS.out]
          simp only [stepR]
          rw [if_pos (by simp)]
          skip
          rw [if_pos hw])
        clear hEe
        go_wp2_with fail
        refine (HWD.out _).mono ?_
        rintro e w2 ⟨rfl, rfl⟩
        go_wp2_with fail
        go_ret2
        exact HERR2.out _ ((Only.refl _ _).alloc _) HST.out
      · have hEb : ((E : Int) == (a : Int) + 1) = false := by simp; omega
        have HST : Hid (stepR (restR s.data.toList D a) = some (⟨4, 0, s.extract (a + 1) E⟩, s.data.toList.drop E)) := Lib.hid (by
          have hw : ¬ wordL (s.data.toList.drop (a + 1)) = 0 := by have := HWL.out; omega
          have hwe : wordL (s.data.toList.drop (a + 1)) = E - (a + 1) := by have := HWL.out; omega
          rw [HRS.out]
          simp only [stepR]
          rw [if_pos (by simp)]
          skip
          rw [if_neg hw, hwe, extract_bs rfl]
          simp [kindOf]
          omega)
        have hE1 : ((a : Int) + 1 : Int) ≤ (E : Int) := by omega
        have hE2 : (E : Int) ≤ (s.size : Int) := by omega
        have hE3 : a < E := by omega
        obtain ⟨nm, HNM⟩ : ∃ nm, Hid (s.extract (a + 1) E = nm) := ⟨_, Lib.hid rfl⟩
        rw [HNM.out] at HST
        clear hEe
        have hto : ((a : Int) + 1).toNat = a + 1 := by omega
        have HRD : Hid (Reads ((wr.alloc (.cells #[.int .i64 4, .int .i64 0, .string nm] 44)).alloc (.cells #[.int .i64 4, .int .i64 0, .string nm] 44)) ((wr.alloc (.cells #[.int .i64 4, .int .i64 0, .string nm] 44)).heap.size + 1) 3 (some ⟨(wr.alloc (.cells #[.int .i64 4, .int .i64 0, .string nm] 44)).heap.size, 0, none⟩) 1 (Pt.vals ⟨4, 0, nm⟩)) := Lib.hid (reads_alloc _ 44 #[.int .i64 4, .int .i64 0, .string nm] 3 1 rfl)
        have HZS : Hid ((wr.alloc (.cells #[.int .i64 4, .int .i64 0, .string nm] 44)).heap.size = wr.heap.size + 1) := Lib.hid (by simp)
        rw [HZS.out] at HRD
        have HOW : Hid (Only Nobody wr ((wr.alloc (.cells #[.int .i64 4, .int .i64 0, .string nm] 44)).alloc (.cells #[.int .i64 4, .int .i64 0, .string nm] 44))) := Lib.hid (((Only.refl _ _).alloc _).alloc _)
        have HRW := Lib.hid (HROW.out _ HOW.out)
        have HBB : Hid (w.heap.size ≤ ((wr.alloc (.cells #[.int .i64 4, .int .i64 0, .string nm] 44)).alloc (.cells #[.int .i64 4, .int .i64 0, .string nm] 44)).heap.size) := Lib.hid (Nat.le_trans HBZ.out HOW.out.size)
        have HU := Lib.hid (one_pt ⟨4, 0, nm⟩)
        go_wp2_with fail
        refine (HWD.out _).mono ?_
        rintro e w2 ⟨rfl, rfl⟩
        go_upto_region 40 with fail
        rw [HNM.out]
        go_wp2_with (at_builtin; refine wpList_append_any _ rfl (.tmp 147) (.tmp 149) _ rfl w.heap.size 44 i0 _ 3 32 Tryd.underlying26 hi0 hz0 hz1 hz2 rfl (by omega) (.slice A4 dn c4) dn (ptVals D) rfl HRW.out _ (some ⟨wr.heap.size + 1, 0, none⟩) 1 1 (Pt.vals ⟨4, 0, nm⟩) rfl HRD.out HU.out HBY.out.1 HBY.out.2 HBB.out ?_)
        intro v5 w5 hown5 hgr5 hat5
        have HNEXT : Hid (ParRel s w (D ++ [⟨4, 0, nm⟩]) E v5 w5) := Lib.hid (ParRel.next HREL.out HST.out rfl hE3 HOW.out (by rw [HDN.out]; exact hown5) (by rw [HDN.out]; exact hgr5))
        clear hown5 hgr5 hat5
        go_wp2_with fail
        go_roundg (s.size - E)
        case measure => omega
        case rel => exact ⟨_, E, rfl, by omega, HNEXT⟩
    have hz63 : ((cn : Int) == 63) = false := by
      rw [← HCN.out]; simp; intro e; exact h63 (UInt8.toNat_inj.1 (by have : (63 : UInt8).toNat = 63 := rfl; omega))
    by_cases h91 : c = 91
    case neg =>
      have hz91 : ((cn : Int) == 91) = false := by
        rw [← HCN.out]; simp; intro e; exact h91 (UInt8.toNat_inj.1 (by have : (91 : UInt8).toNat = 91 := rfl; omega))
      have HST : Hid (stepR (restR s.data.toList D a) = none) := Lib.hid (by
        rw [HRSC.out]
        simp only [stepR]
        rw [if_neg (fun h => by rcases h with h | h; exact h46 h; exact h63 h), if_neg h91])
      clear h46 h63 h91 hd0
      go_wp2_with fail
      go_ret2
      exact HERR2.out _ ((Only.refl _ _).alloc _) HST.out
    subst h91
    obtain rfl : cn = 91 := HCN.out.symm
    obtain ⟨wo, rfl⟩ : ∃ wo : World, wo = wr := ⟨_, rfl⟩
    have HSB : Hid (stepR (restR s.data.toList D a) = brack (s.data.toList.drop (a + 1))) := Lib.hid (by rw [HRSC.out]; rfl)
    go_wp2_with fail
    go_loop [8] (fun ev => ∃ e : Nat, ev = .int .i64 (e : Int) ∧ a + 1 ≤ e ∧ e ≤ s.size ∧ Hid (∀ j b, a + 1 ≤ j → j < e → s.data.toList[j]? = some b → b ≠ 93)) (fun ev => s.size - (intOf ev).toNat)
    case atStart => exact ⟨a + 1, by go_num, Nat.le_refl _, by omega, Lib.hid (fun j b h1 h2 => by omega)⟩
    case round =>
      obtain ⟨e, rfl, he1, he2, HNO⟩ := hrel
      have he0 : (0 : Int) ≤ (e : Int) := by omega
      by_cases hes : e < s.size
      case neg =>
        obtain rfl : e = s.size := by omega
        have HST : Hid (stepR (restR s.data.toList D a) = none) := Lib.hid (by
          rw [HSB.out]
          apply brack_none
          rw [cut_no (fun hm => by
            obtain ⟨j, hj, hje⟩ := List.mem_iff_getElem.1 hm
            rw [List.getElem_drop] at hje
            rw [List.length_drop, size_len] at hj
            exact HNO.out (a + 1 + j) 93 (by omega) (by omega) (by rw [← hje]; exact List.getElem?_eq_getElem _) rfl)])
        go_wp2_with fail
        go_ret2
        exact HERR2.out _ ((Only.refl _ _).alloc _) HST.out
      have heI : (e : Int) < (s.size : Int) := by omega
      obtain ⟨b, hb⟩ : ∃ b, s[e] = b := ⟨_, rfl⟩
      have hbl : s.data.toList[e]? = some b := by rw [← hb]; exact Lib.data_getElem? s e hes
      obtain ⟨bn, HBN⟩ : ∃ bn, Hid (b.toNat = bn) := ⟨_, Lib.hid rfl⟩
      have hbb : (s[e]).toNat = bn := by rw [hb, HBN.out]
      have HBL := Lib.hid hbl
      clear hb hbl
      by_cases h93 : b = 93
      case neg =>
        have hz93 : ((bn : Int) == 93) = false := by
          rw [← HBN.out]; simp; intro x; exact h93 (UInt8.toNat_inj.1 (by have : (93 : UInt8).toNat = 93 := rfl; omega))
        have hz93b : ((bn : Int) != 93) = true := by rw [bne, hz93]; rfl
        have HNOn : Hid (∀ j b, a + 1 ≤ j → j < e + 1 → s.data.toList[j]? = some b → b ≠ 93) := Lib.hid fun j b' h1 h2 hj => by
          by_cases hje : j = e
          · subst hje
            rw [HBL.out] at hj
            injection hj with hj
            rw [← hj]; exact h93
          · exact HNO.out j b' h1 (by omega) hj
        clear h93
        go_wp2_with fail
        go_round
        case rel => exact ⟨e + 1, by go_num, by omega, by omega, HNOn⟩
        case measure => simp [intOf]; omega
      subst h93
      obtain rfl : bn = 93 := HBN.out.symm
      obtain ⟨I, HI⟩ : ∃ I, Hid (s.extract (a + 1) e = I) := ⟨_, Lib.hid rfl⟩
      have HIL : Hid (I.data.toList = (s.data.toList.drop (a + 1)).take (e - (a + 1))) := Lib.hid (by rw [← HI.out, extract_bs rfl, bs_data])
      have HCUT : Hid (Lib.cut (s.data.toList.drop (a + 1)) [93] = (I.data.toList, s.data.toList.drop (e + 1), true)) := Lib.hid (by
        have hsp : s.data.toList.drop (a + 1) = I.data.toList ++ 93 :: s.data.toList.drop (e + 1) := by
          have hle : s.data.toList.drop e = 93 :: s.data.toList.drop (e + 1) := by
            have hl : e < s.data.toList.length := by rw [size_len]; exact hes
            rw [List.drop_eq_getElem_cons hl]
            have := HBL.out
            rw [List.getElem?_eq_getElem hl] at this
            rw [Option.some.inj this]
          rw [HIL.out, ← hle]
          have h2 := List.take_append_drop (e - (a + 1)) (s.data.toList.drop (a + 1))
          rw [List.drop_drop, show a + 1 + (e - (a + 1)) = e by omega] at h2
          exact h2.symm
        rw [hsp]
        exact cut_app (fun hm => by
          rw [HIL.out] at hm
          obtain ⟨j, hj, hje⟩ := List.mem_iff_getElem.1 hm
          rw [List.getElem_take, List.getElem_drop] at hje
          rw [List.length_take] at hj
          exact HNO.out (a + 1 + j) 93 (by omega) (by omega) (by rw [← hje]; exact List.getElem?_eq_getElem _) rfl))
      have HBR : Hid (stepR (restR s.data.toList D a) = if I.data.toList = [42] then some (⟨3, 0, ⟨#[]⟩⟩, s.data.toList.drop (e + 1)) else (numL I.data.toList).map fun (i : Nat) => (⟨2, (i : Int), ⟨#[]⟩⟩, s.data.toList.drop (e + 1))) := Lib.hid (by
        rw [HSB.out]
        unfold brack
        rw [HCUT.out, if_pos rfl])
      have hIz : I.size ≤ 200 := by rw [← HI.out, ByteArray.size_extract]; omega
      have hee : ((e : Int) == (s.size : Int)) = false := by simp; omega
      have hto : ((a : Int) + 1).toNat = a + 1 := by omega
      have hs1 : (a : Int) + 1 ≤ (e : Int) := by omega
      by_cases h42 : I.data.toList = [42]
      · have h42b : (I.toList == [42]) = true := by rw [toList_data, h42]; rfl
        have h42c : I.toList = [42] := by rw [toList_data, h42]
        have HST : Hid (stepR (restR s.data.toList D a) = some (⟨3, 0, ⟨#[]⟩⟩, s.data.toList.drop (e + 1))) := Lib.hid (by rw [HBR.out, if_pos h42])
        have HZS : Hid ((wo.alloc (.cells #[.int .i64 3, .int .i64 0, .string ⟨#[]⟩] 44)).heap.size = wo.heap.size + 1) := Lib.hid (by simp)
        clear h42
        go_upto_if 82 with fail
        rw [HI.out, h42b]
        have HRD : Hid (Reads ((wo.alloc (.cells #[.int .i64 3, .int .i64 0, .string ⟨#[]⟩] 44)).alloc (.cells #[.int .i64 3, .int .i64 0, .string ⟨#[]⟩] 44)) ((wo.alloc (.cells #[.int .i64 3, .int .i64 0, .string ⟨#[]⟩] 44)).heap.size + 1) 3 (some ⟨(wo.alloc (.cells #[.int .i64 3, .int .i64 0, .string ⟨#[]⟩] 44)).heap.size, 0, none⟩) 1 (Pt.vals ⟨3, 0, ⟨#[]⟩⟩)) := Lib.hid (reads_alloc _ 44 #[.int .i64 3, .int .i64 0, .string ⟨#[]⟩] 3 1 rfl)
        rw [HZS.out] at HRD
        have HOW : Hid (Only Nobody wo ((wo.alloc (.cells #[.int .i64 3, .int .i64 0, .string ⟨#[]⟩] 44)).alloc (.cells #[.int .i64 3, .int .i64 0, .string ⟨#[]⟩] 44))) := Lib.hid (((Only.refl Nobody wo).alloc _).alloc _)
        have HRW := Lib.hid (HROW.out _ HOW.out)
        have HBB : Hid (w.heap.size ≤ ((wo.alloc (.cells #[.int .i64 3, .int .i64 0, .string ⟨#[]⟩] 44)).alloc (.cells #[.int .i64 3, .int .i64 0, .string ⟨#[]⟩] 44)).heap.size) := Lib.hid (Nat.le_trans HBZ.out HOW.out.size)
        have HU := Lib.hid (one_pt ⟨3, 0, ⟨#[]⟩⟩)
        go_upto_region 32 with fail
        go_wp2_with (at_builtin; refine wpList_append_any _ rfl (.tmp 126) (.tmp 128) _ rfl w.heap.size 44 i0 _ 3 32 Tryd.underlying26 hi0 hz0 hz1 hz2 rfl (by omega) (.slice A4 dn c4) dn (ptVals D) rfl HRW.out _ (some ⟨wo.heap.size + 1, 0, none⟩) 1 1 (Pt.vals ⟨3, 0, ⟨#[]⟩⟩) rfl HRD.out HU.out HBY.out.1 HBY.out.2 HBB.out ?_)
        intro v5 w5 hown5 hgr5 hat5
        have HNEXT : Hid (ParRel s w (D ++ [⟨3, 0, ⟨#[]⟩⟩]) (e + 1) v5 w5) := Lib.hid (ParRel.next HREL.out HST.out rfl (by omega) HOW.out (by rw [HDN.out]; exact hown5) (by rw [HDN.out]; exact hgr5))
        clear hown5 hgr5 hat5
        go_wp2_with fail
        go_roundg (s.size - (e + 1))
        case measure => omega
        case rel => exact ⟨_, e + 1, by go_num, by omega, HNEXT⟩
      have h42b : (I.toList == [42]) = false := by
        rw [toList_data]; simpa using h42
      have h42c : ¬ I.toList = [42] := by rw [toList_data]; exact h42
      have HBR2 : Hid (stepR (restR s.data.toList D a) = (numL I.data.toList).map fun (i : Nat) => (⟨2, (i : Int), ⟨#[]⟩⟩, s.data.toList.drop (e + 1))) := Lib.hid (by rw [HBR.out, if_neg h42])
      have HPB : Hid (Blk (wo.alloc (.cells #[.int .i64 2, .int .i64 0, .string ⟨#[]⟩] 44)) wo.heap.size 44 #[.int .i64 2, .int .i64 0, .string ⟨#[]⟩]) := Lib.hid (Blk.new _ _ _)
      clear h42
      go_upto_if 82 with fail
      rw [HI.out, h42b]
      go_wp2_with fail
      go_loopw [10] (fun iv wx => ∃ i : Nat, iv = .int .i64 (i : Int) ∧ i ≤ I.size ∧ valD (I.data.toList.take i) ≤ 2600 ∧ Hid (Blk wx wo.heap.size 44 #[.int .i64 2, .int .i64 (valD (I.data.toList.take i) : Int), .string ⟨#[]⟩]) ∧ Hid (Only Nobody wo wx)) (fun iv _ => I.size - (intOf iv).toNat)
      case atStart => exact ⟨0, rfl, Nat.zero_le _, by simp [valD], HPB, Lib.hid ((Only.refl _ _).alloc _)⟩
      case round =>
        clear HPB
        obtain ⟨i, rfl, hi, hv26, HPB, HOI⟩ := hrel
        have hi0' : (0 : Int) ≤ (i : Int) := by omega
        obtain ⟨v, HV⟩ : ∃ v, Hid (valD (I.data.toList.take i) = v) := ⟨_, Lib.hid rfl⟩
        rw [HV.out] at hv26 HPB
        have hv0 : (0 : Int) ≤ (v : Int) := by omega
        have hvI : (v : Int) ≤ 2600 := by omega
        have x0 : wr.cell? ⟨wo.heap.size, 0, none⟩ = some (.int .i64 2) := HPB.out.cell 0
        have x1 : wr.cell? ⟨wo.heap.size, 1, none⟩ = some (.int .i64 (v : Int)) := HPB.out.cell 1
        have x2 : wr.cell? ⟨wo.heap.size, 2, none⟩ = some (.string ⟨#[]⟩) := HPB.out.cell 2
        have xf : wr.frozen? ⟨wo.heap.size, 1, none⟩ = false := HPB.out.frozen 1
        by_cases hgo : i < I.size ∧ v ≤ 256
        · have hiI : (i : Int) < (I.size : Int) := by omega
          have hvL : (v : Int) ≤ 256 := by omega
          have hil := hgo.1
          obtain ⟨d, hd⟩ : ∃ d, I[i] = d := ⟨_, rfl⟩
          have hdl : I.data.toList[i]? = some d := by rw [← hd]; exact Lib.data_getElem? I i hil
          obtain ⟨dm, HDM⟩ : ∃ dm, Hid (d.toNat = dm) := ⟨_, Lib.hid rfl⟩
          have hdd : (I[i]).toNat = dm := by rw [hd, HDM.out]
          have hdb : dm < 256 := by rw [← HDM.out]; exact d.toNat_lt
          have HDLI := Lib.hid hdl
          clear hd hdl hgo
          by_cases hdig : 48 ≤ dm ∧ dm ≤ 57
          case neg =>
            have HST : Hid (stepR (restR s.data.toList D a) = none) := Lib.hid (by
              rw [HBR2.out, numL_letter HDLI.out (by rw [HDM.out]; exact hdig)]; rfl)
            by_cases hlow : dm < 48
            · have l1 : (dm : Int) < 48 := by omega
              clear hdig hlow
              go_wp2_with fail
              go_ret2
              exact HERR2.out _ HOI.out HST.out
            · have l1 : ¬ (dm : Int) < 48 := by omega
              have l2 : (57 : Int) < (dm : Int) := by omega
              clear hdig hlow
              go_wp2_with fail
              go_ret2
              exact HERR2.out _ HOI.out HST.out
          have l1 : ¬ (dm : Int) < 48 := by omega
          have l2 : ¬ (57 : Int) < (dm : Int) := by omega
          have HU8 : Hid (IntKind.u8.wrap ((dm : Int) - 48) = (dm : Int) - 48) := Lib.hid (by simp [IntKind.wrap, IntKind.signed, IntKind.bits]; omega)
          have HW1 : Hid (IntKind.i64.wrap (10 * (v : Int)) = 10 * (v : Int)) := Lib.hid (IntWalk.i64_in _ (by omega))
          have HW2 : Hid (IntKind.i64.wrap ((dm : Int) - 48) = (dm : Int) - 48) := Lib.hid (IntWalk.i64_in _ (by omega))
          have HW3 : Hid (IntKind.i64.wrap (10 * (v : Int) + ((dm : Int) - 48)) = 10 * (v : Int) + ((dm : Int) - 48)) := Lib.hid (IntWalk.i64_in _ (by omega))
          have HVN : Hid (valD (I.data.toList.take (i + 1)) = 10 * v + (dm - 48)) := Lib.hid (by rw [take_nextB HDLI.out, valD_snoc, HV.out, HDM.out])
          have HVZ : Hid (valD (I.data.toList.take (i + 1)) ≤ 2600) := Lib.hid (by rw [HVN.out]; omega)
          have HPn : Hid (∀ wy, wy = wr.setCell ⟨wo.heap.size, 1, none⟩ (.int .i64 (10 * (v : Int) + ((dm : Int) - 48))) → Blk wy wo.heap.size 44 #[.int .i64 2, .int .i64 (valD (I.data.toList.take (i + 1)) : Int), .string ⟨#[]⟩] ∧ Only Nobody wo wy) := Lib.hid fun wy hy => by
            subst hy
            refine ⟨?_, HOI.out.setCell (p := ⟨wo.heap.size, 1, none⟩) (.inr (Nat.le_refl _)) _⟩
            have e : (valD (I.data.toList.take (i + 1)) : Int) = 10 * (v : Int) + ((dm : Int) - 48) := by rw [HVN.out]; omega
            rw [e]
            exact HPB.out.set_ 1 _
          clear hdig
          have hu8 := HU8.out
          have hw1 := HW1.out
          have hw2 := HW2.out
          have hw3 := HW3.out
          go_upto_region 29 with fail
          go_region_law (fail)
          all_goals
            clear hu8 hw1 hw2 hw3
            have HX := Lib.hid (HPn.out _ rfl)
            go_wp2_with fail
            go_roundw
            case rel => first | exact ⟨i + 1, by go_num, by omega, HVZ.out, Lib.hid (Blk.drew HX.out.1), Lib.hid (HX.out.2.drew)⟩ | ((repeat apply Exists.intro); exact ⟨⟨i + 1, by go_num, by omega, HVZ.out, Lib.hid (Blk.drew HX.out.1), Lib.hid (HX.out.2.drew)⟩, rfl⟩)
            case measure => simp [intOf]; omega
        · have hstop : ¬ ((i : Int) < (I.size : Int) ∧ (v : Int) ≤ 256) := by omega
          have hsd : (decide ((i : Int) < (I.size : Int)) && decide ((v : Int) ≤ 256)) = false := by
            by_cases h1 : (i : Int) < (I.size : Int)
            · rw [decide_eq_true h1, decide_eq_false (fun h2 => hstop ⟨h1, h2⟩)]; rfl
            · rw [decide_eq_false h1]; rfl
          by_cases hbig : 256 ≤ v
          · have hbI : (256 : Int) ≤ (v : Int) := by omega
            have HST : Hid (stepR (restR s.data.toList D a) = none) := Lib.hid (by
              rw [HBR2.out, numL_big (k := i) (by rw [HV.out]; exact hbig)]; rfl)
            by_cases hil : (i : Int) < (I.size : Int)
            · have hv2 : ¬ (v : Int) ≤ 256 := fun h2 => hstop ⟨hil, h2⟩
              clear hgo hstop hsd hbig
              go_wp2_with fail
              go_ret2
              exact HERR2.out _ HOI.out HST.out
            · clear hgo hstop hsd hbig
              go_wp2_with fail
              go_ret2
              exact HERR2.out _ HOI.out HST.out
          have hbI : ¬ (256 : Int) ≤ (v : Int) := by omega
          have hil : ¬ (i : Int) < (I.size : Int) := by omega
          have HVA : Hid (valD I.data.toList = v) := Lib.hid (by rw [← HV.out, List.take_of_length_le (by rw [size_len]; omega)])
          have HDC : Hid (∀ w', Calls Tryd.prog 44 #[.int .i64 (v : Int)] w' fun e w'' => e = .returned (.string (decS v)) ∧ Only Nobody w' w'') := Lib.hid fun w' => decimal_nat v (by omega) w'
          obtain ⟨T, HT⟩ : ∃ T, Hid (decS v = T) := ⟨_, Lib.hid rfl⟩
          rw [HT.out] at HDC
          obtain ⟨be, hbe⟩ : ∃ be, (T.toList == I.toList) = be := ⟨_, rfl⟩
          have HBE : Hid (be = decide (Lib.decDigits v = I.data.toList)) := Lib.hid (by
            rw [← hbe, bytes_eq2]
            apply decide_eq_decide.2
            rw [← HT.out]
            constructor
            · intro h; rw [← h]; unfold decS; simp
            · intro h; exact str_ext (by rw [← h]; unfold decS; simp))
          have HV256 : Hid (v < 256) := Lib.hid (by omega)
          cases be with
          | false =>
            have hne : (T.toList != I.toList) = true := by rw [bne, hbe]; rfl
            have HST : Hid (stepR (restR s.data.toList D a) = none) := Lib.hid (by
              rw [HBR2.out, numL_no (by rw [HVA.out]; exact of_decide_eq_false HBE.out.symm)]; rfl)
            clear hgo hstop hsd
            go_wp2_with fail
            refine (HDC.out _).mono ?_
            rintro e2 w2 ⟨rfl, ho⟩
            have HO2 := Lib.hid (HOI.out.trans ho)
            clear ho
            go_wp2_with fail
            go_ret2
            exact HERR2.out _ HO2.out HST.out
          | true =>
            have hne : (T.toList != I.toList) = false := by rw [bne, hbe]; rfl
            have HST : Hid (stepR (restR s.data.toList D a) = some (⟨2, (v : Int), ⟨#[]⟩⟩, s.data.toList.drop (e + 1))) := Lib.hid (by
              have hy := numL_yes (l := I.data.toList) (by rw [HVA.out]; exact HV256.out) (by rw [HVA.out]; exact of_decide_eq_true HBE.out.symm)
              rw [HVA.out] at hy
              rw [HBR2.out, hy]; rfl)
            clear hgo hstop hsd
            go_wp2_with fail
            refine (HDC.out _).mono ?_
            rintro e2 w2 ⟨rfl, ho⟩
            have HO2 := Lib.hid (HOI.out.trans ho)
            have HPB2 := Lib.hid (ho.blk HPB.out (fun x => x))
            have y0 : w2.cell? ⟨wo.heap.size, 0, none⟩ = some (.int .i64 2) := HPB2.out.cell 0
            have y1 : w2.cell? ⟨wo.heap.size, 1, none⟩ = some (.int .i64 (v : Int)) := HPB2.out.cell 1
            have y2 : w2.cell? ⟨wo.heap.size, 2, none⟩ = some (.string ⟨#[]⟩) := HPB2.out.cell 2
            clear ho x0 x1 x2 xf
            have HRD : Hid (Reads (w2.alloc (.cells #[.int .i64 2, .int .i64 (v : Int), .string ⟨#[]⟩] 44)) (w2.heap.size + 1) 3 (some ⟨w2.heap.size, 0, none⟩) 1 (Pt.vals ⟨2, (v : Int), ⟨#[]⟩⟩)) := Lib.hid (reads_alloc _ 44 #[.int .i64 2, .int .i64 (v : Int), .string ⟨#[]⟩] 3 1 rfl)
            skip
            have HOW : Hid (Only Nobody wo (w2.alloc (.cells #[.int .i64 2, .int .i64 (v : Int), .string ⟨#[]⟩] 44))) := Lib.hid (HO2.out.alloc _)
            have HRW := Lib.hid (HROW.out _ HOW.out)
            have HBB : Hid (w.heap.size ≤ (w2.alloc (.cells #[.int .i64 2, .int .i64 (v : Int), .string ⟨#[]⟩] 44)).heap.size) := Lib.hid (Nat.le_trans HBZ.out HOW.out.size)
            have HU := Lib.hid (one_pt ⟨2, (v : Int), ⟨#[]⟩⟩)
            go_upto_region 32 with fail
            go_wp2_with (at_builtin; refine wpList_append_any _ rfl (.tmp 126) (.tmp 128) _ rfl w.heap.size 44 i0 _ 3 32 Tryd.underlying26 hi0 hz0 hz1 hz2 rfl (by omega) (.slice A4 dn c4) dn (ptVals D) rfl HRW.out _ (some ⟨w2.heap.size, 0, none⟩) 1 1 (Pt.vals ⟨2, (v : Int), ⟨#[]⟩⟩) rfl HRD.out HU.out HBY.out.1 HBY.out.2 HBB.out ?_)
            intro v5 w5 hown5 hgr5 hat5
            have HNEXT : Hid (ParRel s w (D ++ [⟨2, (v : Int), ⟨#[]⟩⟩]) (e + 1) v5 w5) := Lib.hid (ParRel.next HREL.out HST.out rfl (by omega) HOW.out (by rw [HDN.out]; exact hown5) (by rw [HDN.out]; exact hgr5))
            clear hown5 hgr5 hat5
            go_wp2_with fail
            go_roundg (s.size - (e + 1))
            case measure => omega
            case rel => exact ⟨_, e + 1, by go_num, by omega, HNEXT⟩
end Go.Proofs.YtdccckoelnnnoaaDoor
