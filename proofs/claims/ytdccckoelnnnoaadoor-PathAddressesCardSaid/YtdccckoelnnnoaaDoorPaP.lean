/- Path: parts: valid, text, the reference's text. (printed by gen_pap.py) -/
import Derived.Test.YtdccckoelnnnoaaDoorPaN
import Derived.Test.YtdccckoelnnnoaaDoorPaD
import Derived.Lib.ItoaNum
import Derived.Lib.ItoaLen
namespace Go.Proofs.YtdccckoelnnnoaaDoor
open Go.RowKit
attribute [local go_sem ↓] Go.wp_at_zero Go.wp_at_succ

/-- A part of a path, the package's or the reference's. -/
structure Pt where
  kind : Int
  idx : Int
  name : ByteArray
deriving DecidableEq
def Pt.vals (p : Pt) : List Value := [.int .i64 p.kind, .int .i64 p.idx, .string p.name]
def ptC (p : Pt) : Array Value := #[.int .i64 p.kind, .int .i64 p.idx, .string p.name]
def validB (p : Pt) : Bool :=
  if p.kind = 1 ∨ p.kind = 4 then decide (p.idx = 0) && nameB p.name
  else if p.kind = 2 then decide (p.name.size = 0) && decide (0 ≤ p.idx) && decide (p.idx < 256)
  else if p.kind = 3 then decide (p.name.size = 0) && decide (p.idx = 0) else false
/-- The text of a part behind another one. -/
def ptT (p : Pt) : ByteArray :=
  if p.kind = 1 then ⟨#[46]⟩ ++ p.name else if p.kind = 2 then ⟨#[91]⟩ ++ decS p.idx.toNat ++ ⟨#[93]⟩ else if p.kind = 3 then ⟨#[91, 42, 93]⟩ else ⟨#[63]⟩ ++ p.name
/-- The text of a part in the reference, and whether it is one. -/
def refOk (p : Pt) (first : Bool) : Bool := validB p && (decide (p.kind = 1) || !first)
def refT (p : Pt) (first : Bool) : ByteArray := if refOk p first = true then (if first = true then p.name else ptT p) else ⟨#[]⟩

theorem empty_eq (s : ByteArray) : (s.toList == ByteArray.toList ⟨#[]⟩) = decide (s.size = 0) := by
  have e0 : ByteArray.toList ⟨#[]⟩ = [] := by rw [toList_data]
  rw [e0, toList_data]
  by_cases h : s.size = 0
  · have : s.data.toList = [] := List.eq_nil_of_length_eq_zero (by rw [Array.length_toList]; exact h)
    rw [this, decide_eq_true h]; rfl
  · have : ¬ s.data.toList = [] := fun e => h (by show s.data.size = 0; rw [← Array.length_toList, e]; rfl)
    rw [decide_eq_false h]
    simpa using this
theorem size_zero {s : ByteArray} (h : s.size = 0) : s = ⟨#[]⟩ := str_ext (List.eq_nil_of_length_eq_zero (by rw [Array.length_toList]; exact h))
theorem ne_nil {s : ByteArray} (h : ¬ s.size = 0) : (s.toList == ([] : List UInt8)) = false := by
  have e := empty_eq s
  rw [show ByteArray.toList ⟨#[]⟩ = [] by rw [toList_data], decide_eq_false h] at e
  exact e
theorem ne_nil' {s : ByteArray} (h : ¬ s.size = 0) : s.toList.isEmpty = false := by
  have e := ne_nil h
  cases hs : s.toList with
  | nil => rw [hs] at e; cases e
  | cons a l => rfl
theorem ne_nil2 {s : ByteArray} (h : ¬ s.size = 0) : ¬ s.toList = [] := fun e => by
  have := ne_nil' h
  rw [e] at this
  cases this
theorem nameB_size {s : ByteArray} (h : nameB s = true) : s.size ≤ 32 := by
  unfold nameB at h
  simp only [Bool.and_eq_true, decide_eq_true_eq] at h
  exact h.1.1
theorem itoa_nat (n : Nat) : Lib.itoa (n : Int) = (decS n).data.toList := by
  unfold decS
  simp [Lib.itoa]
theorem itoa_dec {i : Int} (h : 0 ≤ i) : (decS i.toNat).data.toList = Lib.itoa i := by
  rw [← itoa_nat, Int.toNat_of_nonneg h]

set_option maxRecDepth 100000 in
set_option maxHeartbeats 4000000 in
theorem valid_any (k i : Int) (n : ByteArray) (w : World) : Calls Tryd.prog 43 #[.agg #[.int .i64 k, .int .i64 i, .string n]] w fun e w' => e = .returned (.bool (validB ⟨k, i, n⟩)) ∧ Only Nobody w w' := by
  have HB : Hid (Blk (w.alloc (.cells (ptC ⟨k, i, n⟩) 61)) w.heap.size 61 (ptC ⟨k, i, n⟩)) := Lib.hid (Blk.new w _ _)
  have c0 := HB.out.cell 0
  have c1 := HB.out.cell 1
  have c2 := HB.out.cell 2
  simp only [ptC] at c0 c1 c2 HB
  have HOA : Hid (Only Nobody w (w.alloc (.cells #[.int .i64 k, .int .i64 i, .string n] 61))) := Lib.hid ((Only.refl _ _).alloc _)
  clear HB
  have hn := empty_eq n

  by_cases h1 : k = 1
  · subst h1
    by_cases hi : i = 0
    · subst hi
      have HF : Hid (nameB n = validB ⟨1, 0, n⟩) := Lib.hid (by unfold validB; simp)
      go_enter Tryd.func43, Tryd.ntmps43
      go_wp2_with fail
      refine (vName_any n _).mono ?_
      rintro e w1 ⟨rfl, ho⟩
      have HO := Lib.hid (HOA.out.trans ho)
      clear ho
      go_wp2_with fail
      go_ret
      exact ⟨ret_bool HF.out, HO.out⟩
    · have HF : Hid (false = validB ⟨1, i, n⟩) := Lib.hid (by unfold validB; simp [hi])
      have hib : (i == 0) = false := by simp; exact hi
      clear hi
      go_enter Tryd.func43, Tryd.ntmps43
      go_wp2_with fail
      go_ret
      exact ⟨ret_bool HF.out, (by repeat (first | exact Only.refl _ _ | refine Only.drew ?_ | refine Only.alloc ?_ _))⟩
  by_cases h4 : k = 4
  · subst h4
    by_cases hi : i = 0
    · subst hi
      have HF : Hid (nameB n = validB ⟨4, 0, n⟩) := Lib.hid (by unfold validB; simp)
      go_enter Tryd.func43, Tryd.ntmps43
      go_wp2_with fail
      refine (vName_any n _).mono ?_
      rintro e w1 ⟨rfl, ho⟩
      have HO := Lib.hid (HOA.out.trans ho)
      clear ho
      go_wp2_with fail
      go_ret
      exact ⟨ret_bool HF.out, HO.out⟩
    · have HF : Hid (false = validB ⟨4, i, n⟩) := Lib.hid (by unfold validB; simp [hi])
      have hib : (i == 0) = false := by simp; exact hi
      clear hi
      go_enter Tryd.func43, Tryd.ntmps43
      go_wp2_with fail
      go_ret
      exact ⟨ret_bool HF.out, (by repeat (first | exact Only.refl _ _ | refine Only.drew ?_ | refine Only.alloc ?_ _))⟩
  by_cases h2 : k = 2
  · subst h2
    by_cases hz : n.size = 0
    · obtain rfl := size_zero hz
      by_cases hi0 : 0 ≤ i
      · by_cases hi1 : i < 256
        · have HF : Hid (true = validB ⟨2, i, ⟨#[]⟩⟩) := Lib.hid (by unfold validB; first | (simp [hi0, hi1]; done) | (simp [hi0, hi1]; rfl))
          clear h1 h4 hz hn
          go_enter Tryd.func43, Tryd.ntmps43
          go_wp2_with fail
          go_ret
          exact ⟨ret_bool HF.out, (by repeat (first | exact Only.refl _ _ | refine Only.drew ?_ | refine Only.alloc ?_ _))⟩
        · have HF : Hid (false = validB ⟨2, i, ⟨#[]⟩⟩) := Lib.hid (by unfold validB; first | (simp [hi0, hi1]; done) | (simp [hi0, hi1]; rfl))
          clear h1 h4 hz hn
          go_enter Tryd.func43, Tryd.ntmps43
          go_wp2_with fail
          go_ret
          exact ⟨ret_bool HF.out, (by repeat (first | exact Only.refl _ _ | refine Only.drew ?_ | refine Only.alloc ?_ _))⟩
      · have HF : Hid (false = validB ⟨2, i, ⟨#[]⟩⟩) := Lib.hid (by unfold validB; first | (simp [hi0]; done) | (simp [hi0]; rfl))
        clear h1 h4 hz hn
        go_enter Tryd.func43, Tryd.ntmps43
        go_wp2_with fail
        go_ret
        exact ⟨ret_bool HF.out, (by repeat (first | exact Only.refl _ _ | refine Only.drew ?_ | refine Only.alloc ?_ _))⟩
    · rw [decide_eq_false hz] at hn
      have hn0 := ne_nil hz
      have hn1 := ne_nil' hz
      have hn2 := ne_nil2 hz
      have HF : Hid (false = validB ⟨2, i, n⟩) := Lib.hid (by unfold validB; first | (simp [hz]; done) | (simp [hz]; rfl))
      clear h1 h4 hz
      go_enter Tryd.func43, Tryd.ntmps43
      go_wp2_with fail
      go_ret
      exact ⟨ret_bool HF.out, (by repeat (first | exact Only.refl _ _ | refine Only.drew ?_ | refine Only.alloc ?_ _))⟩
  by_cases h3 : k = 3
  · subst h3
    by_cases hz : n.size = 0
    · obtain rfl := size_zero hz
      by_cases hi0 : i = 0
      · subst hi0
        have HF : Hid (true = validB ⟨3, 0, ⟨#[]⟩⟩) := Lib.hid (by unfold validB; first | (simp; done) | (simp; rfl))
        clear h1 h4 h2 hz hn
        go_enter Tryd.func43, Tryd.ntmps43
        go_wp2_with fail
        go_ret
        exact ⟨ret_bool HF.out, (by repeat (first | exact Only.refl _ _ | refine Only.drew ?_ | refine Only.alloc ?_ _))⟩
      · have hib : (i == 0) = false := by simp; exact hi0
        have HF : Hid (false = validB ⟨3, i, ⟨#[]⟩⟩) := Lib.hid (by unfold validB; first | (simp [hi0]; done) | (simp [hi0]; rfl))
        clear h1 h4 h2 hz hn hi0
        go_enter Tryd.func43, Tryd.ntmps43
        go_wp2_with fail
        go_ret
        exact ⟨ret_bool HF.out, (by repeat (first | exact Only.refl _ _ | refine Only.drew ?_ | refine Only.alloc ?_ _))⟩
    · rw [decide_eq_false hz] at hn
      have hn0 := ne_nil hz
      have hn1 := ne_nil' hz
      have hn2 := ne_nil2 hz
      have HF : Hid (false = validB ⟨3, i, n⟩) := Lib.hid (by unfold validB; first | (simp [hz]; done) | (simp [hz]; rfl))
      clear h1 h4 h2 hz
      go_enter Tryd.func43, Tryd.ntmps43
      go_wp2_with fail
      go_ret
      exact ⟨ret_bool HF.out, (by repeat (first | exact Only.refl _ _ | refine Only.drew ?_ | refine Only.alloc ?_ _))⟩
  have b1 : (k == 1) = false := by simp; exact h1
  have b2 : (k == 2) = false := by simp; exact h2
  have b3 : (k == 3) = false := by simp; exact h3
  have b4 : (k == 4) = false := by simp; exact h4
  have HF : Hid (false = validB ⟨k, i, n⟩) := Lib.hid (by unfold validB; first | (simp [h1, h2, h3, h4]; done) | (simp [h1, h2, h3, h4]; rfl))
  clear h1 h2 h3 h4 hn
  go_enter Tryd.func43, Tryd.ntmps43
  go_wp2_with fail
  go_ret
  exact ⟨ret_bool HF.out, (by repeat (first | exact Only.refl _ _ | refine Only.drew ?_ | refine Only.alloc ?_ _))⟩

set_option maxRecDepth 100000 in
set_option maxHeartbeats 4000000 in
theorem text_any (k i : Int) (n : ByteArray) (w : World) (ht : CalTab w) (hv : validB ⟨k, i, n⟩ = true) : Calls Tryd.prog 46 #[.agg #[.int .i64 k, .int .i64 i, .string n]] w fun e w' => e = .returned (.string (ptT ⟨k, i, n⟩)) ∧ Only Nobody w w' := by
  have HT := Lib.hid (ht.same ((Only.refl Nobody w).alloc (.cells (ptC ⟨k, i, n⟩) 61)))
  have HB : Hid (Blk (w.alloc (.cells (ptC ⟨k, i, n⟩) 61)) w.heap.size 61 (ptC ⟨k, i, n⟩)) := Lib.hid (Blk.new w _ _)
  have c0 := HB.out.cell 0
  have c1 := HB.out.cell 1
  have c2 := HB.out.cell 2
  simp only [ptC] at c0 c1 c2 HB HT
  have HOA : Hid (Only Nobody w (w.alloc (.cells #[.int .i64 k, .int .i64 i, .string n] 61))) := Lib.hid ((Only.refl _ _).alloc _)
  clear HB ht
  by_cases h2 : k = 2
  · subst h2
    have hi : (n.size = 0 ∧ 0 ≤ i) ∧ i < 256 := by simpa [validB] using hv
    have hi0 := hi.1.2
    have hi1 := hi.2
    obtain ⟨s, HS⟩ : ∃ s, Hid (decS i.toNat = s) := ⟨_, Lib.hid rfl⟩
    have hsz : s.size ≤ 13 := by rw [← HS.out]; exact decS_size (by omega)
    have HIT : Hid (∀ w, CalTab w → Calls Tryd.prog 61 #[.int .i64 i] w fun e w' => e = .returned (.string s) ∧ Only Nobody w w') := Lib.hid fun w h => itoa_any i (by omega) (by omega) s (by rw [← HS.out]; exact itoa_dec hi0) w h
    have HF : Hid ((⟨#[91]⟩ : ByteArray) ++ s ++ ⟨#[93]⟩ = ptT ⟨2, i, n⟩) := Lib.hid (by unfold ptT; rw [← HS.out]; rfl)
    have z1 : ¬ 9223372036854775807 < 1 + s.size := by omega
    have z2 : ¬ 9223372036854775807 < 1 + s.size + 1 := by omega
    clear hi hv
    go_enter Tryd.func46, Tryd.ntmps46
    go_wp2_with fail
    refine (HIT.out _ HT.out).mono ?_
    rintro e w1 ⟨rfl, ho⟩
    have HO := Lib.hid (HOA.out.trans ho)
    clear ho
    go_wp2_with fail
    go_ret
    exact ⟨ret_str HF.out, HO.out⟩
  by_cases h1 : k = 1
  · subst h1
    have hx : i = 0 ∧ nameB n = true := by simpa [validB] using hv
    have hz : n.size ≤ 32 := nameB_size hx.2
    have HF : Hid ((⟨#[46]⟩ : ByteArray) ++ n = ptT ⟨1, i, n⟩) := Lib.hid (by unfold ptT; simp)
    have z1 : ¬ 9223372036854775807 < 1 + n.size := by omega
    clear hx hv h2
    go_enter Tryd.func46, Tryd.ntmps46
    go_wp2_with fail
    go_ret
    exact ⟨ret_str HF.out, (by repeat (first | exact Only.refl _ _ | refine Only.drew ?_ | refine Only.alloc ?_ _))⟩
  by_cases h3 : k = 3
  · subst h3
    have HF : Hid ((⟨#[91, 42, 93]⟩ : ByteArray) = ptT ⟨3, i, n⟩) := Lib.hid (by unfold ptT; simp)
    clear hv h1 h2
    go_enter Tryd.func46, Tryd.ntmps46
    go_wp2_with fail
    go_ret
    exact ⟨ret_str HF.out, (by repeat (first | exact Only.refl _ _ | refine Only.drew ?_ | refine Only.alloc ?_ _))⟩
  have h4 : k = 4 := by
    by_cases h4 : k = 4
    · exact h4
    · simp [validB, h1, h2, h3, h4] at hv
  subst h4
  have hx : i = 0 ∧ nameB n = true := by simpa [validB] using hv
  have hz : n.size ≤ 32 := nameB_size hx.2
  have HF : Hid ((⟨#[63]⟩ : ByteArray) ++ n = ptT ⟨4, i, n⟩) := Lib.hid (by unfold ptT; simp)
  have z1 : ¬ 9223372036854775807 < 1 + n.size := by omega
  clear hx hv h1 h2 h3
  go_enter Tryd.func46, Tryd.ntmps46
  go_wp2_with fail
  go_ret
  exact ⟨ret_str HF.out, (by repeat (first | exact Only.refl _ _ | refine Only.drew ?_ | refine Only.alloc ?_ _))⟩

theorem ret2_both {a b : ByteArray} {x y : Bool} (h : a = b) (h' : x = y) : Ending.returned (.tuple #[.string a, .bool x]) = Ending.returned (.tuple #[.string b, .bool y]) := by rw [h, h']
theorem refT_no {p : Pt} {f : Bool} (h : false = refOk p f) : (⟨#[]⟩ : ByteArray) = refT p f := by unfold refT; rw [← h]; rfl

set_option maxRecDepth 100000 in
set_option maxHeartbeats 8000000 in
theorem rtext_any (k i : Int) (n : ByteArray) (f : Bool) (w : World) : Calls Tryd.prog 41 #[.agg #[.int .i64 k, .int .i64 i, .string n], .bool f] w fun e w' => e = .returned (.tuple #[.string (refT ⟨k, i, n⟩ f), .bool (refOk ⟨k, i, n⟩ f)]) ∧ Only Nobody w w' := by
  have HB : Hid (Blk (w.alloc (.cells (ptC ⟨k, i, n⟩) 44)) w.heap.size 44 (ptC ⟨k, i, n⟩)) := Lib.hid (Blk.new w _ _)
  have c0 := HB.out.cell 0
  have c1 := HB.out.cell 1
  have c2 := HB.out.cell 2
  simp only [ptC] at c0 c1 c2 HB
  have HOA : Hid (Only Nobody w (w.alloc (.cells #[.int .i64 k, .int .i64 i, .string n] 44))) := Lib.hid ((Only.refl _ _).alloc _)
  clear HB
  by_cases h1 : k = 1
  · subst h1
    by_cases hi : i = 0
    case neg =>
      have hib : (i == 0) = false := by simp; exact hi
      have HFB : Hid (false = refOk ⟨1, i, n⟩ f) := Lib.hid (by unfold refOk validB; first | (simp [hi]; done) | (simp [hi]; rfl))
      have HFT : Hid (⟨#[]⟩ = refT ⟨1, i, n⟩ f) := Lib.hid (by exact refT_no HFB.out)
      clear hi
      go_enter Tryd.func41, Tryd.ntmps41
      go_wp2_with fail
      go_ret2
      exact ⟨ret2_both HFT.out HFB.out, (by repeat (first | exact Only.refl _ _ | refine Only.drew ?_ | refine Only.alloc ?_ _))⟩
    subst hi
    by_cases hnm : nameB n = true
    case neg =>
      have HNM : Hid (nameB n = false) := Lib.hid (by simpa using hnm)
      have HFB : Hid (false = refOk ⟨1, 0, n⟩ f) := Lib.hid (by unfold refOk validB; first | (simp [HNM.out]; done) | (simp [HNM.out]; rfl))
      have HFT : Hid (⟨#[]⟩ = refT ⟨1, 0, n⟩ f) := Lib.hid (by exact refT_no HFB.out)
      clear hnm
      go_enter Tryd.func41, Tryd.ntmps41
      go_wp2_with fail
      refine (rName_any n _).mono ?_
      rw [HNM.out]
      rintro e w1 ⟨rfl, rfl⟩
      go_wp2_with fail
      go_ret2
      exact ⟨ret2_both HFT.out HFB.out, (by repeat (first | exact Only.refl _ _ | refine Only.drew ?_ | refine Only.alloc ?_ _))⟩
    have HNM := Lib.hid hnm
    have hz : n.size ≤ 32 := nameB_size hnm
    have z1 : ¬ 9223372036854775807 < 1 + n.size := by omega
    clear hnm
    cases f
    · skip
      have HFB : Hid (true = refOk ⟨1, 0, n⟩ false) := Lib.hid (by unfold refOk validB; simp [HNM.out])
      have HFT : Hid ((⟨#[46]⟩ : ByteArray) ++ n = refT ⟨1, 0, n⟩ false) := Lib.hid (by unfold refT; rw [← HFB.out]; simp [ptT])
      go_enter Tryd.func41, Tryd.ntmps41
      go_wp2_with fail
      refine (rName_any n _).mono ?_
      rw [HNM.out]
      rintro e w1 ⟨rfl, rfl⟩
      go_wp2_with fail
      go_ret2
      exact ⟨ret2_both HFT.out HFB.out, (by repeat (first | exact Only.refl _ _ | refine Only.drew ?_ | refine Only.alloc ?_ _))⟩
    · skip
      have HFB : Hid (true = refOk ⟨1, 0, n⟩ true) := Lib.hid (by unfold refOk validB; simp [HNM.out])
      have HFT : Hid (n = refT ⟨1, 0, n⟩ true) := Lib.hid (by unfold refT; rw [← HFB.out]; simp)
      go_enter Tryd.func41, Tryd.ntmps41
      go_wp2_with fail
      refine (rName_any n _).mono ?_
      rw [HNM.out]
      rintro e w1 ⟨rfl, rfl⟩
      go_wp2_with fail
      go_ret2
      exact ⟨ret2_both HFT.out HFB.out, (by repeat (first | exact Only.refl _ _ | refine Only.drew ?_ | refine Only.alloc ?_ _))⟩
  by_cases h2 : k = 2
  · subst h2
    by_cases hz : n.size = 0
    case neg =>
      have hn0 := ne_nil hz
      have hn1 := ne_nil' hz
      have hn2 := ne_nil2 hz
      have HFB : Hid (false = refOk ⟨2, i, n⟩ f) := Lib.hid (by unfold refOk validB; first | (simp [hz]; done) | (simp [hz]; rfl))
      have HFT : Hid (⟨#[]⟩ = refT ⟨2, i, n⟩ f) := Lib.hid (by exact refT_no HFB.out)
      clear h1 hz
      go_enter Tryd.func41, Tryd.ntmps41
      go_wp2_with fail
      go_ret2
      exact ⟨ret2_both HFT.out HFB.out, (by repeat (first | exact Only.refl _ _ | refine Only.drew ?_ | refine Only.alloc ?_ _))⟩
    obtain rfl := size_zero hz
    by_cases hi0 : 0 ≤ i
    case neg =>
      have HFB : Hid (false = refOk ⟨2, i, ⟨#[]⟩⟩ f) := Lib.hid (by unfold refOk validB; first | (simp [hi0]; done) | (simp [hi0]; rfl))
      have HFT : Hid (⟨#[]⟩ = refT ⟨2, i, ⟨#[]⟩⟩ f) := Lib.hid (by exact refT_no HFB.out)
      clear h1 hz
      go_enter Tryd.func41, Tryd.ntmps41
      go_wp2_with fail
      go_ret2
      exact ⟨ret2_both HFT.out HFB.out, (by repeat (first | exact Only.refl _ _ | refine Only.drew ?_ | refine Only.alloc ?_ _))⟩
    by_cases hi1 : i < 256
    case neg =>
      have HFB : Hid (false = refOk ⟨2, i, ⟨#[]⟩⟩ f) := Lib.hid (by unfold refOk validB; first | (simp [hi0, hi1]; done) | (simp [hi0, hi1]; rfl))
      have HFT : Hid (⟨#[]⟩ = refT ⟨2, i, ⟨#[]⟩⟩ f) := Lib.hid (by exact refT_no HFB.out)
      clear h1 hz
      go_enter Tryd.func41, Tryd.ntmps41
      go_wp2_with fail
      go_ret2
      exact ⟨ret2_both HFT.out HFB.out, (by repeat (first | exact Only.refl _ _ | refine Only.drew ?_ | refine Only.alloc ?_ _))⟩
    cases f
    case true =>
      have HFB : Hid (false = refOk ⟨2, i, ⟨#[]⟩⟩ true) := Lib.hid (by unfold refOk validB; first | (simp []; done) | (simp []; rfl))
      have HFT : Hid (⟨#[]⟩ = refT ⟨2, i, ⟨#[]⟩⟩ true) := Lib.hid (by exact refT_no HFB.out)
      clear h1 hz
      go_enter Tryd.func41, Tryd.ntmps41
      go_wp2_with fail
      go_ret2
      exact ⟨ret2_both HFT.out HFB.out, (by repeat (first | exact Only.refl _ _ | refine Only.drew ?_ | refine Only.alloc ?_ _))⟩
    obtain ⟨s, HS⟩ : ∃ s, Hid (decS i.toNat = s) := ⟨_, Lib.hid rfl⟩
    have hsz : s.size ≤ 13 := by rw [← HS.out]; exact decS_size (by omega)
    have HDC : Hid (∀ w, Calls Tryd.prog 44 #[.int .i64 i] w fun e w' => e = .returned (.string s) ∧ Only Nobody w w') := Lib.hid fun w => by
      have := decimal_nat i.toNat (by omega) w
      rw [HS.out, Int.toNat_of_nonneg hi0] at this
      exact this
    have z1 : ¬ 9223372036854775807 < 1 + s.size := by omega
    have z2 : ¬ 9223372036854775807 < 1 + s.size + 1 := by omega
    have HFB : Hid (true = refOk ⟨2, i, ⟨#[]⟩⟩ false) := Lib.hid (by unfold refOk validB; first | (simp [hi0, hi1]; done) | (simp [hi0, hi1]; rfl))
    have HFT : Hid ((⟨#[91]⟩ : ByteArray) ++ s ++ ⟨#[93]⟩ = refT ⟨2, i, ⟨#[]⟩⟩ false) := Lib.hid (by unfold refT; rw [← HFB.out, ← HS.out]; rfl)
    clear h1 hz
    go_enter Tryd.func41, Tryd.ntmps41
    go_wp2_with fail
    refine (HDC.out _).mono ?_
    rintro e w1 ⟨rfl, ho⟩
    have HO := Lib.hid (HOA.out.trans ho)
    clear ho
    go_wp2_with fail
    go_ret2
    exact ⟨ret2_both HFT.out HFB.out, HO.out⟩
  by_cases h3 : k = 3
  · subst h3
    by_cases hz : n.size = 0
    case neg =>
      have hn0 := ne_nil hz
      have hn1 := ne_nil' hz
      have hn2 := ne_nil2 hz
      have HFB : Hid (false = refOk ⟨3, i, n⟩ f) := Lib.hid (by unfold refOk validB; first | (simp [hz]; done) | (simp [hz]; rfl))
      have HFT : Hid (⟨#[]⟩ = refT ⟨3, i, n⟩ f) := Lib.hid (by exact refT_no HFB.out)
      clear h1 h2 hz
      go_enter Tryd.func41, Tryd.ntmps41
      go_wp2_with fail
      go_ret2
      exact ⟨ret2_both HFT.out HFB.out, (by repeat (first | exact Only.refl _ _ | refine Only.drew ?_ | refine Only.alloc ?_ _))⟩
    obtain rfl := size_zero hz
    by_cases hi : i = 0
    case neg =>
      have hib : (i == 0) = false := by simp; exact hi
      have HFB : Hid (false = refOk ⟨3, i, ⟨#[]⟩⟩ f) := Lib.hid (by unfold refOk validB; first | (simp [hi]; done) | (simp [hi]; rfl))
      have HFT : Hid (⟨#[]⟩ = refT ⟨3, i, ⟨#[]⟩⟩ f) := Lib.hid (by exact refT_no HFB.out)
      clear h1 h2 hz hi
      go_enter Tryd.func41, Tryd.ntmps41
      go_wp2_with fail
      go_ret2
      exact ⟨ret2_both HFT.out HFB.out, (by repeat (first | exact Only.refl _ _ | refine Only.drew ?_ | refine Only.alloc ?_ _))⟩
    subst hi
    cases f
    case true =>
      have HFB : Hid (false = refOk ⟨3, 0, ⟨#[]⟩⟩ true) := Lib.hid (by unfold refOk validB; first | (simp []; done) | (simp []; rfl))
      have HFT : Hid (⟨#[]⟩ = refT ⟨3, 0, ⟨#[]⟩⟩ true) := Lib.hid (by exact refT_no HFB.out)
      clear h1 h2 hz
      go_enter Tryd.func41, Tryd.ntmps41
      go_wp2_with fail
      go_ret2
      exact ⟨ret2_both HFT.out HFB.out, (by repeat (first | exact Only.refl _ _ | refine Only.drew ?_ | refine Only.alloc ?_ _))⟩
    have HFB : Hid (true = refOk ⟨3, 0, ⟨#[]⟩⟩ false) := Lib.hid (by unfold refOk validB; first | (simp; done) | (simp; rfl))
    have HFT : Hid ((⟨#[91, 42, 93]⟩ : ByteArray) = refT ⟨3, 0, ⟨#[]⟩⟩ false) := Lib.hid (by unfold refT; rw [← HFB.out]; rfl)
    clear h1 h2 hz
    go_enter Tryd.func41, Tryd.ntmps41
    go_wp2_with fail
    go_ret2
    exact ⟨ret2_both HFT.out HFB.out, (by repeat (first | exact Only.refl _ _ | refine Only.drew ?_ | refine Only.alloc ?_ _))⟩
  by_cases h4 : k = 4
  · subst h4
    by_cases hi : i = 0
    case neg =>
      have hib : (i == 0) = false := by simp; exact hi
      have HFB : Hid (false = refOk ⟨4, i, n⟩ f) := Lib.hid (by unfold refOk validB; first | (simp [hi]; done) | (simp [hi]; rfl))
      have HFT : Hid (⟨#[]⟩ = refT ⟨4, i, n⟩ f) := Lib.hid (by exact refT_no HFB.out)
      clear hi
      go_enter Tryd.func41, Tryd.ntmps41
      go_wp2_with fail
      go_ret2
      exact ⟨ret2_both HFT.out HFB.out, (by repeat (first | exact Only.refl _ _ | refine Only.drew ?_ | refine Only.alloc ?_ _))⟩
    subst hi
    by_cases hnm : nameB n = true
    case neg =>
      have HNM : Hid (nameB n = false) := Lib.hid (by simpa using hnm)
      have HFB : Hid (false = refOk ⟨4, 0, n⟩ f) := Lib.hid (by unfold refOk validB; first | (simp [HNM.out]; done) | (simp [HNM.out]; rfl))
      have HFT : Hid (⟨#[]⟩ = refT ⟨4, 0, n⟩ f) := Lib.hid (by exact refT_no HFB.out)
      clear hnm
      go_enter Tryd.func41, Tryd.ntmps41
      go_wp2_with fail
      refine (rName_any n _).mono ?_
      rw [HNM.out]
      rintro e w1 ⟨rfl, rfl⟩
      go_wp2_with fail
      go_ret2
      exact ⟨ret2_both HFT.out HFB.out, (by repeat (first | exact Only.refl _ _ | refine Only.drew ?_ | refine Only.alloc ?_ _))⟩
    have HNM := Lib.hid hnm
    have hz : n.size ≤ 32 := nameB_size hnm
    have z1 : ¬ 9223372036854775807 < 1 + n.size := by omega
    clear hnm
    cases f
    · skip
      have HFB : Hid (true = refOk ⟨4, 0, n⟩ false) := Lib.hid (by unfold refOk validB; simp [HNM.out])
      have HFT : Hid ((⟨#[63]⟩ : ByteArray) ++ n = refT ⟨4, 0, n⟩ false) := Lib.hid (by unfold refT; rw [← HFB.out]; simp [ptT])
      go_enter Tryd.func41, Tryd.ntmps41
      go_wp2_with fail
      refine (rName_any n _).mono ?_
      rw [HNM.out]
      rintro e w1 ⟨rfl, rfl⟩
      go_wp2_with fail
      go_ret2
      exact ⟨ret2_both HFT.out HFB.out, (by repeat (first | exact Only.refl _ _ | refine Only.drew ?_ | refine Only.alloc ?_ _))⟩
    · skip
      have HFB : Hid (false = refOk ⟨4, 0, n⟩ true) := Lib.hid (by unfold refOk validB; first | (simp []; done) | (simp []; rfl))
      have HFT : Hid (⟨#[]⟩ = refT ⟨4, 0, n⟩ true) := Lib.hid (by exact refT_no HFB.out)
      go_enter Tryd.func41, Tryd.ntmps41
      go_wp2_with fail
      refine (rName_any n _).mono ?_
      rw [HNM.out]
      rintro e w1 ⟨rfl, rfl⟩
      go_wp2_with fail
      go_ret2
      exact ⟨ret2_both HFT.out HFB.out, (by repeat (first | exact Only.refl _ _ | refine Only.drew ?_ | refine Only.alloc ?_ _))⟩
  have b1 : (k == 1) = false := by simp; exact h1
  have b2 : (k == 2) = false := by simp; exact h2
  have b3 : (k == 3) = false := by simp; exact h3
  have b4 : (k == 4) = false := by simp; exact h4
  have HFB : Hid (false = refOk ⟨k, i, n⟩ f) := Lib.hid (by unfold refOk validB; first | (simp [h1, h2, h3, h4]; done) | (simp [h1, h2, h3, h4]; rfl))
  have HFT : Hid (⟨#[]⟩ = refT ⟨k, i, n⟩ f) := Lib.hid (by exact refT_no HFB.out)
  clear h1 h2 h3 h4
  go_enter Tryd.func41, Tryd.ntmps41
  go_wp2_with fail
  go_ret2
  exact ⟨ret2_both HFT.out HFB.out, (by repeat (first | exact Only.refl _ _ | refine Only.drew ?_ | refine Only.alloc ?_ _))⟩
end Go.Proofs.YtdccckoelnnnoaaDoor
