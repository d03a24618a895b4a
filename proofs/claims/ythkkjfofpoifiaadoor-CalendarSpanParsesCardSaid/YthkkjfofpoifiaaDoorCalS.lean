/- Calendar: contracts of the texts of days. -/
import Derived.Test.YthkkjfofpoifiaaDoorCalR
import Derived.Test.YthkkjfofpoifiaaDoorCalT
import Derived.Test.YthkkjfofpoifiaaDoorShelf
namespace Go.Proofs.YthkkjfofpoifiaaDoor
open Go.RowKit

/-- The library's table of powers of ten lies in memory. -/
def CalTab (w : World) : Prop := Lib.TabIs Tryd.prog w "internal/strconv.uint64pow10" .u64 Lib.pow10Tab
theorem CalTab.below {w w' : World} (h : CalTab w) (hb : Below w.heap.size w w') : CalTab w' := by
  unfold CalTab Lib.TabIs World.var? at *
  cases hg : Tryd.prog.globalNamed "internal/strconv.uint64pow10" with
  | none => simp [hg] at h
  | some g =>
    simp only [hg, Option.bind_some] at h ⊢
    have hlt : g < w.heap.size := by
      rcases Nat.lt_or_ge g w.heap.size with h' | h'
      · exact h'
      · rw [Array.getElem?_eq_none h'] at h; simp at h
    rw [hb.block g hlt]
    exact h
theorem below_grow' (w : World) (k : Nat) (os : Array Obj) : Below w.heap.size w (Go.Sort.grow (w.drewN k) os) := by
  refine ⟨rfl, rfl, rfl, ?_, fun i hi => ?_⟩
  · show w.heap.size ≤ (w.heap ++ os).size
    rw [Array.size_append]; omega
  · show (w.heap ++ os)[i]? = w.heap[i]?
    rw [Array.getElem?_append_left hi]
theorem below_trans {w0 w w' : World} (h : Below w0.heap.size w0 w) (h' : Below w.heap.size w w') : Below w0.heap.size w0 w' := h.trans (h'.mono h.size)

theorem str_ext {a b : ByteArray} (h : a.data.toList = b.data.toList) : a = b := ByteArray.ext (Array.toList_inj.1 h)
theorem str_app {l r : List UInt8} {s : ByteArray} (h : l ++ s.data.toList = r) : (⟨l.toArray⟩ : ByteArray) ++ s = ⟨r.toArray⟩ := str_ext (by simp [h])
theorem ret_str {a b : ByteArray} (h : a = b) : Ending.returned (.string a) = Ending.returned (.string b) := by rw [h]

set_option maxHeartbeats 1000000 in
theorem padded_any (u dg : Nat) (h1 : 1 ≤ dg) (h2 : dg ≤ 9) (hu : u < 10 ^ dg) (w : World) (ht : CalTab w) : Calls Tryd.prog 47 #[.int .i64 (u : Int), .int .i64 (dg : Int)] w fun e w' => e = .returned (.string ⟨(dgs u dg).toArray⟩) ∧ Below w.heap.size w w' := by
  obtain ⟨k, rfl⟩ : ∃ k, dg = k + 1 := ⟨dg - 1, by omega⟩
  have HP := Lib.hid (pad_dgs k u hu)
  have hu9 : (u : Int) ≤ 1000000000 := by
    have : 10 ^ (k + 1) ≤ 10 ^ 9 := Nat.pow_le_pow_right (by omega) h2
    have h9 : (10 : Nat) ^ 9 = 1000000000 := rfl
    omega
  have HT := Lib.hid ht
  clear hu ht
  go_enter Tryd.func47, Tryd.ntmps47
  go_wp2_with fail
  refine (Tryd.strconv_Itoa (u : Int) (by omega) (by omega) _ HT.out).mono ?_
  rintro e w1 ⟨rfl, kk, os, hw1⟩
  have HB1 : Hid (Below w.heap.size w w1) := Lib.hid (by rw [hw1]; exact below_grow' w kk os)
  clear hw1
  obtain ⟨s, HS⟩ : ∃ s : ByteArray, Hid (s = ⟨(Lib.itoa (u : Int)).toArray⟩) := ⟨_, Lib.hid rfl⟩
  rw [← HS.out]
  have HSD : Hid (s.data.toList = Lib.decDigits u) := Lib.hid (by rw [HS.out]; show (Lib.itoa (u : Int)) = _; unfold Lib.itoa; rw [if_neg (by omega)]; simp)
  have HSZ : Hid (s.size = Lib.nDigits u) := Lib.hid (by
    have : s.size = s.data.toList.length := by simp
    rw [this, HSD.out, Lib.decDigits_length])
  have hs1 : s.size ≤ k + 1 := by rw [HSZ.out]; exact HP.out.2
  have hs2 : (0 : Int) ≤ (k : Int) + 1 - s.size := by omega
  go_wp2_with fail
  rw [show max (0 : Int) ((k : Int) + 1 - s.size) = ((k + 1 - s.size : Nat) : Int) by omega]
  refine (Tryd.strings_Repeat ⟨#[48]⟩ (k + 1 - s.size) _ (by omega) (by show 1 * (k + 1 - s.size) ≤ _; omega)).mono ?_
  rintro e w2 ⟨rfl, hb2⟩
  have HB2 := Lib.hid (below_trans HB1.out hb2)
  clear hb2
  have HRL : Hid (Lib.repeatL [48] (k + 1 - s.size) = List.replicate (k + 1 - s.size) 48) := Lib.hid (by
    have := Lib.repeatL_replicate 48 1 (k + 1 - s.size)
    rw [Nat.mul_one] at this
    exact this)
  obtain ⟨r, HR⟩ : ∃ r : ByteArray, Hid (r = ⟨(Lib.repeatL [48] (k + 1 - s.size)).toArray⟩) := ⟨_, Lib.hid rfl⟩
  have hrs : r.size ≤ 9 := by rw [HR.out, HRL.out]; show (List.replicate (k + 1 - s.size) (48 : UInt8)).toArray.size ≤ 9; simp; omega
  have hss : s.size ≤ 9 := by omega
  change _
  simp only []
  rw [← HR.out]
  go_wp2_with fail
  go_ret
  exact ⟨ret_str (by
    rw [HR.out]
    exact str_app (by rw [HRL.out, HSD.out, ← HP.out.1, HSZ.out])), HB2.out⟩

/-- As a call with written numbers needs it. -/
theorem padded4 (u : Nat) (hu : u < 10000) (w : World) (ht : CalTab w) : Calls Tryd.prog 47 #[.int .i64 (u : Int), .int .i64 4] w fun e w' => e = .returned (.string ⟨(dgs u 4).toArray⟩) ∧ Below w.heap.size w w' := padded_any u 4 (by omega) (by omega) (by omega) w ht
theorem padded3 (u : Nat) (hu : u < 1000) (w : World) (ht : CalTab w) : Calls Tryd.prog 47 #[.int .i64 (u : Int), .int .i64 3] w fun e w' => e = .returned (.string ⟨(dgs u 3).toArray⟩) ∧ Below w.heap.size w w' := padded_any u 3 (by omega) (by omega) (by omega) w ht
theorem padded2 (u : Nat) (hu : u < 100) (w : World) (ht : CalTab w) : Calls Tryd.prog 47 #[.int .i64 (u : Int), .int .i64 2] w fun e w' => e = .returned (.string ⟨(dgs u 2).toArray⟩) ∧ Below w.heap.size w w' := padded_any u 2 (by omega) (by omega) (by omega) w ht

/-- What Text returns for a day that is there. -/
def TextPost (n : Int) (w : World) (e : Ending) (w' : World) : Prop := ∃ y m d : Nat, Date y m d ∧ dnum y m d = n ∧ e = .returned (.tuple #[.string ⟨(dateL y m d).toArray⟩, .int .i64 0]) ∧ Below w.heap.size w w'
theorem Date.nat {y m d : Int} (h : Date y m d) : ∃ y' m' d' : Nat, y = y' ∧ m = m' ∧ d = d' ∧ y' < 10000 ∧ m' < 100 ∧ d' < 100 := by
  have := h.y1; have := h.y2; have := h.m1; have := h.m2; have := h.d1; have := h.d2
  have := mdays_bd y m
  exact ⟨y.toNat, m.toNat, d.toNat, by omega, by omega, by omega, by omega, by omega, by omega⟩
theorem ret2_str {a b : ByteArray} {v : Value} (h : a = b) : Ending.returned (.tuple #[.string a, v]) = Ending.returned (.tuple #[.string b, v]) := by rw [h]
set_option maxHeartbeats 1000000 in
theorem Text_yes (n : Int) (h1 : -719162 ≤ n) (h2 : n ≤ 2932896) (w : World) (ht : CalTab w) : Calls Tryd.prog 25 #[.int .i64 n] w (TextPost n w) := by
  have HT := Lib.hid ht
  clear ht
  go_enter Tryd.func25, Tryd.ntmps25
  go_wp2_with fail
  refine (Civil_yes n h1 h2 _).mono ?_
  rintro e w' ⟨y, m, d, hd, hn, rfl, rfl⟩
  obtain ⟨y, m, d, rfl, rfl, rfl, hy, hm, hdd⟩ := hd.nat
  have HD := Lib.hid hd
  have HN := Lib.hid hn
  clear hd hn
  go_wp2_with fail
  refine (padded4 y hy _ HT.out).mono ?_
  rintro e w1 ⟨rfl, hb1⟩
  have HB1 := Lib.hid hb1
  have HT1 := Lib.hid (HT.out.below hb1)
  clear hb1
  go_wp2_with fail
  refine (padded2 m hm _ HT1.out).mono ?_
  rintro e w2 ⟨rfl, hb2⟩
  have HB2 := Lib.hid (below_trans HB1.out hb2)
  have HT2 := Lib.hid (HT1.out.below hb2)
  clear hb2
  go_wp2_with fail
  refine (padded2 d hdd _ HT2.out).mono ?_
  rintro e w3 ⟨rfl, hb3⟩
  have HB3 := Lib.hid (below_trans HB2.out hb3)
  clear hb3
  go_wp2_with fail
  go_ret2
  exact ⟨y, m, d, HD.out, HN.out, ret2_str (by
    apply str_ext
    simp [dateL]), HB3.out⟩
set_option maxHeartbeats 400000 in
theorem Text_no (n : Int) (h : ¬ (-719162 ≤ n ∧ n ≤ 2932896)) (w : World) : Calls Tryd.prog 25 #[.int .i64 n] w fun e w' => e = .returned (.tuple #[.string ⟨#[]⟩, .int .i64 2]) ∧ w = w' := by
  have H := Lib.hid h
  clear h
  go_enter Tryd.func25, Tryd.ntmps25
  go_wp2_with fail
  refine (Civil_no n H.out _).mono ?_
  rintro e w' ⟨rfl, rfl⟩
  go_wp2_with fail
  go_ret2
  exact ⟨rfl, rfl⟩

end Go.Proofs.YthkkjfofpoifiaaDoor
