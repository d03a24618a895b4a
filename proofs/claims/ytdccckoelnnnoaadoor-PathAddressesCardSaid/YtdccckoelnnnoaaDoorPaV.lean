/- Path: contract of Parse. -/
import Derived.Test.YtdccckoelnnnoaaDoorPaU
namespace Go.Proofs.YtdccckoelnnnoaaDoor
open Go.RowKit
attribute [local go_sem ↓] Go.wp_at_zero Go.wp_at_succ

/-- Both Parse return a list of parts, in a block of their own, and an error. -/
def ParPost (t : TypeId) (L : List Pt) (er : Int) (w : World) (e : Ending) (w' : World) : Prop :=
  ∃ vo, e = .returned (.tuple #[vo, .int .i64 er]) ∧ w'.ownsRow w.heap.size t 3 vo L.length (ptVals L) ∧ Only Nobody w w'
theorem par_nil {t : TypeId} {w w' : World} {er : Int} (h : Only Nobody w w') : ParPost t [] er w (.returned (.tuple #[.slice none 0 0, .int .i64 er])) w' := ⟨_, rfl, ⟨rfl, .inl ⟨rfl, rfl⟩⟩, h⟩
theorem par_err {t : TypeId} {w w' : World} {s : List UInt8} {er : Int} (h : parL s = [] ∧ parE s = er) (ho : Only Nobody w w') : ParPost t (parL s) (parE s) w (.returned (.tuple #[.slice none 0 0, .int .i64 er])) w' := by
  rw [h.1, h.2]; exact par_nil ho
theorem par_fin {t : TypeId} {w w' : World} {s : List UInt8} {L : List Pt} {v : Value} (h : parL s = L ∧ parE s = 0) (hown : w'.ownsRow w.heap.size t 3 v L.length (ptVals L)) (ho : Only Nobody w w') : ParPost t (parL s) (parE s) w (.returned (.tuple #[v, .int .i64 0])) w' := by
  rw [h.1, h.2]; exact ⟨_, rfl, hown, ho⟩
theorem parL_empty {s : ByteArray} (h : s.size = 0) : parL s.data.toList = [] ∧ parE s.data.toList = 4 := by
  have : s.data.toList = [] := List.eq_nil_of_length_eq_zero (by rw [size_len]; exact h)
  rw [this]; exact ⟨rfl, rfl⟩
theorem parL_long {s : ByteArray} (h : 200 < s.size) : parL s.data.toList = [] ∧ parE s.data.toList = 5 := by
  have h1 : ¬ s.data.toList = [] := fun e => by rw [← size_len, e] at h; simp at h
  have h2 : 200 < s.data.toList.length := by rw [size_len]; exact h
  unfold parL parE
  rw [if_neg h1, if_pos h2, if_neg h1, if_pos h2]
  exact ⟨rfl, rfl⟩
theorem parL_none {s : ByteArray} (h1 : 0 < s.size) (h2 : s.size ≤ 200) (h : parsesL s.data.toList = none) : parL s.data.toList = [] ∧ parE s.data.toList = 13 := by
  have h3 : ¬ s.data.toList = [] := fun e => by rw [← size_len, e] at h1; simp at h1
  have h4 : ¬ 200 < s.data.toList.length := by rw [size_len]; omega
  unfold parL parE
  rw [if_neg h3, if_neg h4, if_neg h3, if_neg h4, h]
  exact ⟨rfl, rfl⟩
theorem parL_many {s : ByteArray} {L : List Pt} (h1 : 0 < s.size) (h2 : s.size ≤ 200) (h : parsesL s.data.toList = some L) (hl : 16 < L.length) : parL s.data.toList = [] ∧ parE s.data.toList = 9 := by
  have h3 : ¬ s.data.toList = [] := fun e => by rw [← size_len, e] at h1; simp at h1
  have h4 : ¬ 200 < s.data.toList.length := by rw [size_len]; omega
  unfold parL parE
  rw [if_neg h3, if_neg h4, if_neg h3, if_neg h4, h]
  simp only []
  rw [if_pos hl, if_pos hl]
  exact ⟨rfl, rfl⟩
theorem parL_ok {s : ByteArray} {L : List Pt} (h1 : 0 < s.size) (h2 : s.size ≤ 200) (h : parsesL s.data.toList = some L) (hl : ¬ 16 < L.length) : parL s.data.toList = L ∧ parE s.data.toList = 0 := by
  have h3 : ¬ s.data.toList = [] := fun e => by rw [← size_len, e] at h1; simp at h1
  have h4 : ¬ 200 < s.data.toList.length := by rw [size_len]; omega
  unfold parL parE
  rw [if_neg h3, if_neg h4, if_neg h3, if_neg h4, h]
  simp only []
  rw [if_neg hl, if_neg hl]
  exact ⟨rfl, rfl⟩
/-- So far done, so much is left. -/
def ParTo (s : List UInt8) (D : List Pt) (rest : List UInt8) : Prop := ∀ f, rest.length ≤ f → parsesL s = (parseW stepP f rest).map (D ++ ·)
theorem ParTo.start (s : List UInt8) : ParTo s [] (46 :: s) := by
  intro f hf
  unfold parsesL
  rw [parseW_fuel (fun _ _ _ h => stepP_lt h) (s.length + 1) f (46 :: s) (by simp) hf]
  cases parseW stepP f (46 :: s) <;> simp
theorem ParTo.next {s : List UInt8} {D : List Pt} {rest r : List UInt8} {p : Pt} (h : ParTo s D rest) (hs : stepP rest = some (p, r)) : ParTo s (D ++ [p]) r := by
  intro f hf
  have hlt := stepP_lt hs
  cases rest with
  | nil => cases hs
  | cons c l =>
    rw [h (max (f + 1) (c :: l).length) (Nat.le_max_right _ _)]
    obtain ⟨g, hg⟩ : ∃ g, max (f + 1) (c :: l).length = g + 1 := ⟨max (f + 1) (c :: l).length - 1, by omega⟩
    rw [hg]
    simp only [parseW, hs]
    rw [parseW_fuel (fun _ _ _ h => stepP_lt h) g f r (by omega) hf]
    cases parseW stepP f r <;> simp
theorem ParTo.fail {s : List UInt8} {D : List Pt} {rest : List UInt8} (h : ParTo s D rest) (h0 : rest ≠ []) (hs : stepP rest = none) : parsesL s = none := by
  cases rest with
  | nil => exact absurd rfl h0
  | cons c l =>
    rw [h ((c :: l).length) (Nat.le_refl _)]
    simp only [List.length_cons, parseW, hs]
    rfl
theorem ParTo.done {s : List UInt8} {D : List Pt} (h : ParTo s D []) : parsesL s = some D := by
  rw [h 0 (Nat.le_refl _)]
  simp [parseW]
set_option maxRecDepth 100000 in
set_option maxHeartbeats 8000000 in
theorem parse_any (s : ByteArray) (hz : s.size ≤ 100000) (w : World) (h : Std w) : Calls Tryd.prog 19 #[.string s] w (ParPost 61 (parL s.data.toList) (parE s.data.toList) w) := by
  have HS := Lib.hid h
  clear h
  by_cases h0 : s.size = 0
  · have HE := Lib.hid (parL_empty h0)
    obtain rfl := size_zero h0
    rw [HE.out.1, HE.out.2]
    clear h0
    go_enter Tryd.func19, Tryd.ntmps19
    go_wp2_with fail
    go_ret2
    exact par_nil (Only.refl _ _)
  have hn0 := ne_nil h0
  have hn1 := ne_nil' h0
  have hn2 := ne_nil2 h0
  by_cases h2 : 200 < s.size
  · have HE := Lib.hid (parL_long h2)
    have h2I : (200 : Int) < (s.size : Int) := by omega
    rw [HE.out.1, HE.out.2]
    clear h0 h2
    go_enter Tryd.func19, Tryd.ntmps19
    go_wp2_with fail
    go_ret2
    exact par_nil (Only.refl _ _)
  have h2I : ¬ (200 : Int) < (s.size : Int) := by omega
  have HPOS := Lib.hid (show 0 < s.size ∧ s.size ≤ 200 by omega)
  have HST : Hid (ParTo s.data.toList [] ((⟨#[46]⟩ : ByteArray) ++ s).data.toList) := Lib.hid (by
    have := ParTo.start s.data.toList
    simpa using this)
  have hov : ¬ 9223372036854775807 < 1 + s.size := by omega
  have hsz1 : ((⟨#[46]⟩ : ByteArray) ++ s).size ≤ 201 := by rw [ByteArray.size_append]; show 1 + s.size ≤ 201; omega
  obtain ⟨s1, HS1⟩ : ∃ s1, Hid ((⟨#[46]⟩ : ByteArray) ++ s = s1) := ⟨_, Lib.hid rfl⟩
  rw [HS1.out] at HST hsz1
  clear h0 h2
  go_enter Tryd.func19, Tryd.ntmps19
  go_wp2_with fail
  rw [HS1.out]
  go_loopg [4, 5] s1.size (fun g ov rv wx => ∃ (D : List Pt) (r : ByteArray), rv = .string r ∧ r.size ≤ g ∧ D.length + r.size ≤ 201 ∧ Hid (ParTo s.data.toList D r.data.toList) ∧ Hid (wx.ownsRow w.heap.size 61 3 ov D.length (ptVals D)) ∧ Hid (Only Nobody w wx))
  case atStart => exact ⟨[], s1, rfl, Nat.le_refl _, by simpa using hsz1, HST, Lib.hid ⟨rfl, .inl ⟨rfl, rfl⟩⟩, Lib.hid (Only.refl _ _)⟩
  case round =>
    obtain ⟨D, r, rfl, hrg, hDr, HP, HOWN, HON⟩ := hrel
    obtain ⟨A4, c4, rfl⟩ := own_form HOWN.out
    by_cases hr0 : r.size = 0
    · obtain rfl := size_zero hr0
      have HDN := Lib.hid (HP.out.done)
      clear hr0
      by_cases h16 : 16 < D.length
      · have HE := Lib.hid (parL_many HPOS.out.1 HPOS.out.2 HDN.out h16)
        have hI : (16 : Int) < (D.length : Int) := by omega
        clear h16
        go_wp2_with fail
        go_ret2
        exact par_err HE.out HON.out
      · have HE := Lib.hid (parL_ok HPOS.out.1 HPOS.out.2 HDN.out h16)
        have hI : ¬ (16 : Int) < (D.length : Int) := by omega
        clear h16
        go_wp2_with fail
        go_ret2
        exact par_fin HE.out HOWN.out HON.out
    · have r0 := ne_nil hr0
      have r1 := ne_nil' hr0
      have r2 := ne_nil2 hr0
      have HTK := Lib.hid (take_any r (by omega) (by omega) wr (HS.out.same HON.out))
      have HRN : Hid (r.data.toList ≠ []) := Lib.hid (fun e => by rw [← size_len, e] at hr0; exact hr0 rfl)
      obtain ⟨g', hg'⟩ : ∃ g', gk = g' + 1 := ⟨gk - 1, by omega⟩
      subst hg'
      go_wp2_with fail
      refine HTK.out.mono ?_
      rintro e w2 ⟨k, i, n, rest, is, rfl, hf, ho⟩
      have HF := Lib.hid hf
      have HO2 := Lib.hid (HON.out.trans ho)
      have HQ2 := Lib.hid ho
      have HW2 := Lib.hid (Only.row ho HOWN.out (fun _ _ x => x))
      clear hf ho
      have HO3 : Hid (Only Nobody w (w2.alloc (.cells #[.int .i64 k, .int .i64 i, .string n] 61))) := Lib.hid (HO2.out.alloc _)
      have HB3 : Hid (Blk (w2.alloc (.cells #[.int .i64 k, .int .i64 i, .string n] 61)) w2.heap.size 61 #[.int .i64 k, .int .i64 i, .string n]) := Lib.hid (Blk.new _ _ _)
      cases is with
      | false =>
        have HE := Lib.hid (parL_none HPOS.out.1 HPOS.out.2 (HP.out.fail HRN.out (by
          have := HF.out.1
          cases hx : stepP r.data.toList with
          | none => rfl
          | some y => rw [hx] at this; cases this)))
        go_wp2_with fail
        go_ret2
        exact par_err HE.out HO3.out
      | true =>
        cases hv : validB ⟨k, i, n⟩ with
        | false =>
          have HE := Lib.hid (parL_none HPOS.out.1 HPOS.out.2 (HP.out.fail HRN.out (by
            have := HF.out.1
            rw [hv] at this
            cases hx : stepP r.data.toList with
            | none => rfl
            | some y => rw [hx] at this; cases this)))
          have HV := Lib.hid hv
          clear hv
          go_wp2_with fail
          refine (valid_any k i n _).mono ?_
          rw [HV.out]
          rintro e w3 ⟨rfl, ho⟩
          have HO4 := Lib.hid (HO3.out.trans ho)
          clear ho
          go_wp2_with fail
          go_ret2
          exact par_err HE.out HO4.out
        | true =>
          have HSTEP : Hid (stepP r.data.toList = some (⟨k, i, n⟩, rest.data.toList)) := Lib.hid (by
            have h1 := HF.out.1
            have h2 := HF.out.2
            rw [hv] at h1
            cases hx : stepP r.data.toList with
            | none => rw [hx] at h1; cases h1
            | some y =>
              obtain ⟨q, x⟩ := y
              obtain ⟨e1, e2⟩ := h2 q x hx
              rw [← e1, ← e2])
          have HV := Lib.hid hv
          have hlt : rest.size < r.size := by
            have := stepP_lt HSTEP.out
            rw [size_len, size_len] at this
            exact this
          clear hv
          go_wp2_with fail
          refine (valid_any k i n _).mono ?_
          rw [HV.out]
          rintro e w3 ⟨rfl, ho⟩
          have HO4 := Lib.hid (HO3.out.trans ho)
          have HQ4 : Hid (Only Nobody wr w3) := Lib.hid ((HQ2.out.alloc _).trans ho)
          have HB4 := Lib.hid (ho.blk HB3.out (fun x => x))
          have HW3 := Lib.hid (Only.row ho (Only.row (F := Nobody) ((Only.refl _ _).alloc _) HW2.out (fun _ _ x => x)) (fun _ _ x => x))
          have p0 : w3.cell? ⟨w2.heap.size, 0, none⟩ = some (.int .i64 k) := HB4.out.cell 0
          have p1 : w3.cell? ⟨w2.heap.size, 1, none⟩ = some (.int .i64 i) := HB4.out.cell 1
          have p2 : w3.cell? ⟨w2.heap.size, 2, none⟩ = some (.string n) := HB4.out.cell 2
          clear ho
          obtain ⟨i0, hi0, hz0, hz1, hz2⟩ := info_parts infoPt
          have HR : Hid (Reads (w3.alloc (.cells #[.int .i64 k, .int .i64 i, .string n] 61)) (w3.heap.size + 1) 3 (some ⟨w3.heap.size, 0, none⟩) 1 (Pt.vals ⟨k, i, n⟩)) := Lib.hid (reads_alloc w3 61 #[.int .i64 k, .int .i64 i, .string n] 3 1 rfl)
          have HRW : Hid ((w3.alloc (.cells #[.int .i64 k, .int .i64 i, .string n] 61)).ownsRow w.heap.size 61 3 (.slice A4 D.length c4) D.length (ptVals D)) := Lib.hid (Only.row (F := Nobody) ((Only.refl _ _).alloc _) HW3.out (fun _ _ x => x))
          have HBB : Hid (w.heap.size ≤ (w3.alloc (.cells #[.int .i64 k, .int .i64 i, .string n] 61)).heap.size) := Lib.hid (by have := HO4.out.size; simp; omega)
          have HBY : Hid (D.length + 1 ≤ maxLen ∧ (D.length + 1) * 32 ≤ 140737488355328) := Lib.hid (by unfold maxLen; omega)
          have HU := Lib.hid (one_pt ⟨k, i, n⟩)
          go_upto_region 11 with fail
          go_wp2_with (at_builtin; refine wpList_append_any _ rfl (.tmp 33) (.tmp 35) _ rfl w.heap.size 61 i0 _ 3 32 Tryd.underlying29 hi0 hz0 hz1 hz2 rfl (by omega) (.slice A4 D.length c4) D.length (ptVals D) rfl HRW.out _ (some ⟨w3.heap.size, 0, none⟩) 1 1 (Pt.vals ⟨k, i, n⟩) rfl HR.out HU.out HBY.out.1 HBY.out.2 HBB.out ?_)
          intro v5 w5 hown5 hgr5 hat5
          have HOWN5 := Lib.hid hown5
          have HG5 := Lib.hid hgr5
          clear hown5 hgr5 hat5
          have HON5 : Hid (Only Nobody w w5) := Lib.hid (HON.out.trans_more (F := Nobody) (by
            have h1 : Only Nobody wr (w3.alloc (.cells #[.int .i64 k, .int .i64 i, .string n] 61)) := HQ4.out.alloc _
            exact ((h1.mono (G := fun x => w.heap.size ≤ x) (fun _ x => x.elim)).trans (Only.of_grown HG5.out (fun g' e => (HW2.out.lt g' e).1))).mono (fun x hx => .inr hx)))
          go_wp2_with fail
          go_roundg g'
          case measure => omega
          case rel =>
            refine ⟨D ++ [⟨k, i, n⟩], rest, rfl, by omega, by simp; omega, Lib.hid (HP.out.next HSTEP.out), Lib.hid ?_, HON5⟩
            rw [List.length_append, ptVals_append]
            simpa [ptVals] using HOWN5.out
end Go.Proofs.YtdccckoelnnnoaaDoor
